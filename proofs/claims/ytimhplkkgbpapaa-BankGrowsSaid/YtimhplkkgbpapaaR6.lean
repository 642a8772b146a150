/- The walk of the reference's Untree. -/
import Derived.Test.YtimhplkkgbpapaaR5
namespace Go.Proofs.Ytimhplkkgbpapaa
open Go.RowKit

theorem unE_1 {ls : List Lft} {ll : List (List Int)} (h : lftsB ls = false) : unE ls ll = 2 := by unfold unE; rw [h, need_new, need_set (k := 2) (by decide), need_set (k := 2) (by decide), need_set (k := 2) (by decide)]
theorem unE_2 {ls : List Lft} {ll : List (List Int)} (h : lftsB ls = true) (h2 : fitB ll = false) : unE ls ll = 1 := by unfold unE; rw [h, h2, need_true, need_new, need_set (k := 1) (by decide), need_set (k := 1) (by decide)]
theorem unE_3 {ls : List Lft} {ll : List (List Int)} (h : lftsB ls = true) (h2 : fitB ll = true) (h3 : ¬ sumL ll ≤ 4096) : unE ls ll = 4 := by unfold unE; rw [h, h2, need_true, need_true, decide_eq_false (by omega : ¬ (sumL ll : Int) ≤ 4096), need_new, need_set (k := 4) (by decide)]
theorem unE_4 {ls : List Lft} {ll : List (List Int)} (h : lftsB ls = true) (h2 : fitB ll = true) (h3 : sumL ll ≤ 4096) (h4 : (ll.all fun l => l.all wB) = false) : unE ls ll = 17 := by unfold unE; rw [h, h2, need_true, need_true, decide_eq_true (by omega : (sumL ll : Int) ≤ 4096), need_true, h4, need_new]
theorem un_no {ls : List Lft} {ll : List (List Int)} {E : Int} (h : unE ls ll = E) (h0 : E ≠ 0) : unX ls ll = [] := by
  unfold unX
  rw [if_neg (by rw [h]; exact h0)]
theorem fitB_last {ll : List (List Int)} {N : Nat} (hn : ll.length = N + 2) (h : ¬ lenL ll (N + 1) = lenL ll N) : fitB ll = false := by
  rcases hf : fitB ll with _ | _
  · rfl
  · have := (fitB_iff.1 hf).2.2.2
    rw [show ll.length - 1 = N + 1 by omega, show ll.length - 2 = N by omega] at this
    exact absurd this h
theorem fitB_good {ll : List (List Int)} {N : Nat} (hn : ll.length = N + 2) (h5 : N ≤ 5) (h : lenL ll (N + 1) = lenL ll N) (h2 : ∀ j, j < N → 2 * lenL ll (j + 1) = lenL ll j) : fitB ll = true := by
  rw [fitB_end hn h5 h2, h]; simp
theorem r33_SynthN (A B C : Option Addr) (ls : List Lft) (x y : List Int) (c d e h : Nat) (w : World) (hok : lftsB ls = true) (hx : x.length = h) (hy : y.length = h) (hh : h ≤ 2048) (hw : W32 x) (hv : W32 y) (hL : Lifts w A ls) (hI : Ints w B x) (hJ : Ints w C y) :
    Calls Try.prog 33 #[.slice A ls.length c, .slice B h d, .slice C h e] w (Got1 w (synthF ls x y)) := by
  obtain ⟨k1, k2⟩ := lftsB_coefs hok
  have h0 := syE_ok hok hx hy hh hw hv
  have := r33_Synthesise A B C ls x y c d e w hL hI hJ k1 k2 (by omega) (by omega)
  rw [hx, hy] at this
  refine this.mono ?_
  rintro e' w' ⟨v1, rfl, o1, hb⟩
  rw [show syX ls x y = synthF ls x y by unfold syX; rw [if_pos h0]] at o1
  obtain ⟨A1, c1, rfl, _, i1⟩ := o1.form
  rw [h0]
  exact ⟨A1, c1, rfl, i1, hb⟩
set_option maxRecDepth 100000 in
set_option maxHeartbeats 4000000 in
theorem r33_Untree (A B : Option Addr) (ls : List Lft) (ll : List (List Int)) (c d n : Nat) (w : World) (hL : Lifts w A ls) (hx : IntsL w B ll) (hn : n = ll.length) (hl : ls.length ≤ 1000000) (hl2 : ∀ s ∈ ls, s.2.2.1.length ≤ 9223372036854775807) (hn2 : n ≤ 1000) (hxl : ∀ l ∈ ll, l.length ≤ 1000000) :
    Calls Try.prog 17 #[.slice A ls.length c, .slice B n d] w (RetI w (unX ls ll) (unE ls ll)) := by
  have HL2 := Lib.hid hl2
  have HXL := Lib.hid hxl
  have HN := Lib.hid hn
  clear hl2 hxl hn
  rcases hv : lftsB ls with _ | _
  · have HE := Lib.hid (unE_1 (ll := ll) hv)
    have HQ := Lib.hid (un_no (ls := ls) (ll := ll) HE.out (by decide))
    have HV := Lib.hid hv
    clear hv
    go_enter Try.func17, Try.ntmps17
    go_wp2_with ((go_at_call 28; refine (r33_Valid A ls c _ hL hl HL2.out).mono ?_; rintro e' w1 ⟨rfl, rfl⟩; rw [HV.out]))
    go_ret2
    rw [HQ.out, HE.out]
    exact ⟨none, 0, rfl, Ints.nil, Below.refl _ _⟩
  · have HV := Lib.hid hv
    rcases hin : inB (n : Int) 2 7 with _ | _
    · have HIN := Lib.hid hin
      have hf : fitB ll = false := by
        have h1 := inB_no.1 hin
        have := HN.out
        by_cases h2 : n < 2
        · exact fitB_short (by omega)
        · exact fitB_long (by omega)
      have HE := Lib.hid (unE_2 hv hf)
      have HQ := Lib.hid (un_no (ls := ls) (ll := ll) HE.out (by decide))
      have HCI : Hid (∀ w, Calls Try.prog 29 #[.int .i64 (n : Int), .int .i64 2, .int .i64 7] w fun e w' => e = .returned (.bool false) ∧ w = w') := fun w => by have := rf_In (n : Int) 2 7 w; rw [hin] at this; exact this
      clear hv hf hin
      go_enter Try.func17, Try.ntmps17
      go_wp2_with ((go_at_call 28; refine (r33_Valid A ls c _ hL hl HL2.out).mono ?_; rintro e' w1 ⟨rfl, rfl⟩; rw [HV.out]))
      refine wp_region_ext (by kernel_rfl) (by kernel_rfl) ?_
      repeat (go_big_quiet_step (first
        | (go_at_call 29; exact ext_same (HCI.out _))))
      refine wpQuiet_nil ?_
      rintro _ ⟨⟨w1, hb1⟩, rfl⟩
      go_wp2
      go_ret2
      rw [HQ.out, HE.out]
      exact ⟨none, 0, rfl, Ints.nil, hb1⟩
    · have HIN := Lib.hid hin
      obtain ⟨b1, b2⟩ := inB_iff.1 hin
      obtain ⟨N, hN⟩ : ∃ N, n = N + 2 := ⟨n - 2, by omega⟩
      have hN5 : N ≤ 5 := by omega
      obtain ⟨M, hM⟩ : ∃ M, N + 1 = M := ⟨_, rfl⟩
      have hln : ll.length = N + 2 := by have := HN.out; omega
      obtain ⟨ad, l1, B1, c1, hB, hb1, hg1, hc1, hi1⟩ := hx.at_ (k := M) (by omega)
      obtain ⟨ad', l0, B0, c0, e, hb0, hg0, hc0, hi0⟩ := hx.at_ (k := N) (by omega)
      rw [hB] at e
      injection e with e
      subst e
      subst hB
      have q1 := lenL_get hg1
      have q0 := lenL_get hg0
      obtain ⟨a, ha⟩ : ∃ a, l1.length = a := ⟨_, rfl⟩
      obtain ⟨b, hb⟩ : ∃ b, l0.length = b := ⟨_, rfl⟩
      rw [ha] at hc1 q1
      rw [hb] at hc0 q0
      rw [← hM] at q1
      have S0 : Hid (w.cell? (ad.add M) = some (.slice B1 a c1) ∧ w.cell? (ad.add N) = some (.slice B0 b c0)) := ⟨hc1, hc0⟩
      have HM := Lib.hid hM
      have HLN := Lib.hid hln
      have HNN := Lib.hid hN
      have HX := Lib.hid hx
      have x1 : IntKind.i64.wrap ((n : Int) - 1) = (M : Int) := by rw [IntWalk.i64_in _ (by omega)]; omega
      have x2 : IntKind.i64.wrap ((n : Int) - 2) = (N : Int) := by rw [IntWalk.i64_in _ (by omega)]; omega
      have x3 : (0 : Int) ≤ (M : Int) := by omega
      have x4 : (M : Int) < (n : Int) := by omega
      have x5 : (0 : Int) ≤ (N : Int) := by omega
      have x6 : (N : Int) < (n : Int) := by omega
      have HQ1 := Lib.hid q1
      have HQ0 := Lib.hid q0
      have HG1 := Lib.hid hg1
      clear hin b1 b2 hM hln hc1 hc0 ha hb hg0 hN hg1 q1 q0 hx
      by_cases heq : a = b
      · have HFE : Hid (lenL ll (N + 1) = lenL ll N) := by show _ = _; rw [HQ1.out, HQ0.out]; exact heq
        subst heq
        have HLw := Lib.hid hL
        go_enter Try.func17, Try.ntmps17
        go_wp2_with ((go_at_call 28; refine (r33_Valid A ls c _ hL hl HL2.out).mono ?_; rintro e' w1 ⟨rfl, rfl⟩; rw [HV.out]))
        go_region_held3 (fun w' => w'.cell? (ad.add M) = some (.slice B1 a c1) ∧ w'.cell? (ad.add N) = some (.slice B0 a c0)) (exact S0.out) (first | (go_at_call 29; refine (rf_In _ _ _ _).mono ?_; rintro e' w1 ⟨rfl, rfl⟩; rw [HIN.out]))
        all_goals
          clear x1 x2 x3 x4 x5 x6 hL
        go_wp2_with fail
        go_loopw [7] (fun i wr => ∃ k : Nat, k ≤ N ∧ i = .int .i64 k ∧ (∀ j, j < k → 2 * lenL ll (j + 1) = lenL ll j) ∧ Below w.heap.size w wr) (fun i _ => N - (intOf i).toNat)
        case atStart => exact ⟨0, Nat.zero_le _, rfl, fun j hj => absurd hj (Nat.not_lt_zero _), (Below.refl _ _).drew⟩
        case round =>
          obtain ⟨k, hk, rfl, hall, hbw⟩ := hrel
          by_cases hlt : k < N
          · obtain ⟨ad1, m1, D1, d1, e1, hbk1, hgk1, hck1, _⟩ := HX.out.at_ (k := k + 1) (by have := HLN.out; omega)
            obtain ⟨ad0, m0, D0, d0, e0, hbk0, hgk0, hck0, _⟩ := HX.out.at_ (k := k) (by have := HLN.out; omega)
            injection e1 with e1
            injection e0 with e0
            subst e1
            subst e0
            have p1 := lenL_get hgk1
            have p0 := lenL_get hgk0
            have t1 := HXL.out m1 (List.mem_of_getElem? hgk1)
            have t0 := HXL.out m0 (List.mem_of_getElem? hgk0)
            obtain ⟨r1, hr1⟩ : ∃ a, m1.length = a := ⟨_, rfl⟩
            obtain ⟨r0, hr0⟩ : ∃ b, m0.length = b := ⟨_, rfl⟩
            obtain ⟨I, hI⟩ : ∃ I, k + 1 = I := ⟨_, rfl⟩
            rw [hr1] at hck1 p1 t1
            rw [hr0] at hck0 p0 t0
            rw [hI] at hck1
            have hck1 := (hbw.cell (by rw [block_add]; exact hbk1)).trans hck1
            have hck0 := (hbw.cell (by rw [block_add]; exact hbk0)).trans hck0
            have HQ : Hid (2 * lenL ll (k + 1) = lenL ll k ↔ r0 = 2 * r1) := by show _ ↔ _; rw [p1, p0]; omega
            have HALL := Lib.hid hall
            have HBW := Lib.hid hbw
            have HII := Lib.hid hI
            have hn7 : n ≤ 7 := by have := HNN.out; omega
            have x0 : IntKind.i64.wrap ((k : Int) + 2) = (k : Int) + 2 := IntWalk.i64_in _ (by omega)
            have x1 : (k : Int) + 2 < (n : Int) := by have := HNN.out; omega
            have x2 : (0 : Int) ≤ (k : Int) := by omega
            have x3 : (k : Int) < (n : Int) := by omega
            have x4 : IntKind.i64.wrap ((k : Int) + 1) = (I : Int) := by rw [IntWalk.i64_in _ (by omega)]; omega
            have x5 : (0 : Int) ≤ (I : Int) := by omega
            have x6 : (I : Int) < (n : Int) := by omega
            have x7 : IntKind.i64.wrap (2 * (r1 : Int)) = 2 * (r1 : Int) := IntWalk.i64_in _ (by omega)
            clear hgk1 hgk0 p1 p0 hr1 hr0 hall hbw hI
            by_cases heq2 : r0 = 2 * r1
            · have x8 : ((r0 : Int) = 2 * (r1 : Int)) := by omega
              go_wp2
              go_region
              clear x0 x1 x2 x3 x5 x6 x7 x8
              go_wp2
              go_roundw
              case rel => exact ⟨k + 1, hlt, by rw [HII.out], fun j hj => by
                rcases Nat.lt_or_ge j k with h | h
                · exact HALL.out j h
                · obtain rfl : j = k := by omega
                  exact HQ.out.2 heq2, HBW.out.drew⟩
              case measure => simp [intOf]; have := HII.out; omega
            · have x8 : ¬ ((r0 : Int) = 2 * (r1 : Int)) := by omega
              have HE := Lib.hid (unE_2 hv (fitB_bad (ll := ll) (k := k) (by have := HLN.out; omega) (fun h => heq2 (HQ.out.1 h))))
              have HQ2 := Lib.hid (un_no (ls := ls) (ll := ll) HE.out (by decide))
              go_wp2
              go_region
              clear x0 x1 x2 x3 x4 x5 x6 x7 x8
              go_wp2
              go_ret2
              rw [HQ2.out, HE.out]
              exact ⟨none, 0, rfl, Ints.nil, HBW.out.drew⟩
          · obtain rfl : k = N := by omega
            have hfit := fitB_good HLN.out hN5 HFE.out hall
            have hs := fit_sum (ll := ll) k HLN.out.symm (fitB_iff.1 hfit).2.2.1 (fitB_iff.1 hfit).2.2.2
            obtain ⟨ad0, m0, D0, d0, e0, hbk0, hgk0, hck0, _⟩ := HX.out.at_ (k := 0) (by have := HLN.out; omega)
            injection e0 with e0
            subst e0
            have p0 := lenL_get hgk0
            have t0 := HXL.out m0 (List.mem_of_getElem? hgk0)
            obtain ⟨r0, hr0⟩ : ∃ b, m0.length = b := ⟨_, rfl⟩
            rw [hr0] at hck0 p0 t0
            rw [p0] at hs
            have HFIT := Lib.hid hfit
            have HSUM := Lib.hid hs
            have HP0 := Lib.hid p0
            have hck0 : wr.cell? ad = some (.slice D0 r0 d0) := by rw [← (hbw.cell (p := ad) hbk0).trans hck0]
            have HBW := Lib.hid hbw
            have hnk : (n : Int) = (k : Int) + 2 := by have := HNN.out; omega
            have y0 : IntKind.i64.wrap ((k : Int) + 2) = (k : Int) + 2 := IntWalk.i64_in _ (by omega)
            have y1 : (0 : Int) < (n : Int) := by omega
            have y4 : 0 < n := by omega
            have y2 : IntKind.i64.wrap (2 * (r0 : Int)) = 2 * (r0 : Int) := IntWalk.i64_in _ (by omega)
            have y3 : decide ((k : Int) + 2 < (n : Int)) = false := by simp; omega
            clear hfit hs p0 hgk0 hr0 hall hbw hk hlt hbk0 hnk
            by_cases hle : 2 * r0 ≤ 4096
            · have d1 : decide ((4096 : Int) < 2 * (r0 : Int)) = false := by simp; omega
              go_wp2_with fail
              have hsm : sumL ll ≤ 4096 := by rw [HSUM.out]; exact hle
              have HSM := Lib.hid hsm
              clear y0 y1 y4 y2 y3 hck0 d1 hsm
              obtain ⟨wo, rfl⟩ : ∃ wo : World, wo = wr := ⟨_, rfl⟩
              go_loopw [8] (fun i wr => ∃ r : Nat, r ≤ n ∧ i = .int .i64 r ∧ Hid (((ll.take r).all fun l => l.all wB) = true) ∧ wr = wo) (fun i _ => n - (intOf i).toNat)
              case atStart => exact ⟨0, Nat.zero_le _, rfl, rfl, rfl⟩
              case round =>
                obtain ⟨r, hr, rfl, HALL, rfl⟩ := hrel
                by_cases hlt3 : r < n
                · obtain ⟨ad1, m1, D1, d1, e1, hbk1, hgk1, hck1, him1⟩ := HX.out.at_ (k := r) (by have := HN.out; omega)
                  injection e1 with e1
                  subst e1
                  have t1 := HXL.out m1 (List.mem_of_getElem? hgk1)
                  have HS2 := Lib.hid (take_succ_all hgk1 fun l : List Int => l.all wB)
                  have HN2 := Lib.hid (all_no hgk1 (p := fun l : List Int => l.all wB))
                  have hck1 := (HBW.out.cell (by rw [block_add]; exact hbk1)).trans hck1
                  have him1 := him1.grow HBW.out
                  obtain ⟨r1, hr1⟩ : ∃ a, m1.length = a := ⟨_, rfl⟩
                  rw [hr1] at hck1 t1
                  have HR1 := Lib.hid hr1
                  clear hgk1 hr1 hbk1
                  rcases hw1 : m1.all wB with _ | _
                  · have HW1 := Lib.hid hw1
                    have hal : (ll.all fun l => l.all wB) = false := HN2.out hw1
                    have HE := Lib.hid (unE_4 hv HFIT.out HSM.out hal)
                    have HQ2 := Lib.hid (un_no (ls := ls) (ll := ll) HE.out (by decide))
                    clear hw1 hal
                    go_wp2_with (go_at_call 30; refine (r33_wideN D1 m1 d1 r1 _ HR1.out (by omega) him1).mono ?_; rintro e' w1 ⟨rfl, rfl⟩; rw [HW1.out])
                    go_ret2
                    rw [HQ2.out, HE.out]
                    exact ⟨none, 0, rfl, Ints.nil, HBW.out⟩
                  · have HW1 := Lib.hid hw1
                    clear hw1
                    go_wp2_with (go_at_call 30; refine (r33_wideN D1 m1 d1 r1 _ HR1.out (by omega) him1).mono ?_; rintro e' w1 ⟨rfl, rfl⟩; rw [HW1.out])
                    go_roundw
                    case rel => exact ⟨r + 1, by omega, by go_num, by show _ = _; rw [HS2.out, HALL.out, HW1.out]; rfl, by trivial⟩
                    case measure => simp [intOf]; omega
                · obtain rfl : r = n := by omega
                  have hal := HALL.out
                  rw [List.take_of_length_le (by have := HN.out; omega)] at hal
                  have hw32 : ∀ l ∈ ll, W32 l := fun l hl => wB_iff.1 (List.all_eq_true.1 hal l hl)
                  have HE := Lib.hid (unE_ok hv HFIT.out HSM.out hw32)
                  have Z4 := Lib.hid hw32
                  have hll0 : ll ≠ [] := by intro h0; have := HLN.out; rw [h0] at this; simp at this
                  obtain ⟨bs, a', hba⟩ : ∃ bs a, ll = bs ++ [a] := ⟨ll.dropLast, ll.getLast hll0, (List.dropLast_concat_getLast hll0).symm⟩
                  have hbl : bs.length = M := by have h1 := HLN.out; have h2 := HM.out; rw [hba] at h1; simp at h1; omega
                  have hga : ll[M]? = some a' := by rw [hba, List.getElem?_append_right (by omega), hbl, Nat.sub_self]; rfl
                  have hla : l1 = a' := by have := HG1.out; rw [hga] at this; injection this with h; exact h.symm
                  subst hla
                  have hlal : l1.length = a := by have := lenL_get hga; rw [← HM.out, HQ1.out] at this; exact this.symm
                  have HBA := Lib.hid hba
                  have HML := Lib.hid hbl
                  have HVH := Lib.hid hv
                  have HLA := Lib.hid hlal
                  have HI1 := Lib.hid (hi1.grow HBW.out)
                  have hc1 := (HBW.out.cell (by rw [block_add]; exact hb1)).trans S0.out.1
                  have hMN := HM.out
                  have hnN := HNN.out
                  have x1 : IntKind.i64.wrap ((r : Int) - 1) = (M : Int) := by rw [IntWalk.i64_in _ (by omega)]; omega
                  have x2 : IntKind.i64.wrap ((r : Int) - 2) = (M : Int) - 1 := by rw [IntWalk.i64_in _ (by omega)]; omega
                  have x3 : (0 : Int) ≤ (M : Int) := by omega
                  have x4 : (M : Int) < (r : Int) := by omega
                  clear hal hw32 hba hbl hga hlal hMN hnN hll0 hv hlt3 hr
                  go_wp2_with fail
                  clear x1 x2 x3 x4 hc1
                  obtain ⟨wo, rfl⟩ : ∃ wo : World, wo = wr := ⟨_, rfl⟩
                  go_loopw [9, 10] (fun x i wr => ∃ (j : Nat) (z : Int), j ≤ M ∧ i = .int .i64 z ∧ z = (j : Int) - 1 ∧ (∃ C c, x = .slice C (unD ls bs l1 j).length c ∧ Ints wr C (unD ls bs l1 j)) ∧ Below wo.heap.size wo wr) (fun _ i _ => (intOf i + 1).toNat)
                  case atStart => exact ⟨M, (M : Int) - 1, Nat.le_refl _, rfl, rfl, ⟨B1, c1, by rw [← HML.out, unD_end, HLA.out], by rw [← HML.out, unD_end]; exact HI1.out⟩, Below.refl _ _⟩
                  case round =>
                    obtain ⟨j, z, hj, rfl, hz, ⟨C, cc, rfl, hI⟩, hbw⟩ := hrel
                    cases j with
                    | succ J =>
                      obtain rfl : z = (J : Int) := by omega
                      obtain ⟨ad', m1, D1, d1, e1, hbk1, hg1, hc1, hi1⟩ := HX.out.at_ (k := J) (by have := HLN.out; have := HM.out; omega)
                      injection e1 with e1
                      subst e1
                      have hgb : bs[J]? = some m1 := by
                        rw [HBA.out, List.getElem?_append_left (by have := HML.out; omega)] at hg1
                        exact hg1
                      have hst := unD_step (ls := ls) (a := l1) hgb
                      have hlen := fit_len (ls := ls) HFIT.out HBA.out (M - (J + 1)) J (by have := HML.out; omega)
                      have hlj := lenL_get hg1
                      have hle3 := fit_le HFIT.out J (by have := HLN.out; have := HM.out; omega)
                      have hwa : W32 l1 := Z4.out l1 (by rw [HBA.out]; simp)
                      have hwb : ∀ l ∈ bs, W32 l := fun l hl => Z4.out l (by rw [HBA.out]; exact List.mem_append_left _ hl)
                      have hwx := w32_unD (ls := ls) hwa hwb (M - (J + 1)) (J + 1) (by have := HML.out; omega)
                      have hw1 := hwb m1 (List.mem_of_getElem? hgb)
                      obtain ⟨X, hX⟩ : ∃ X, unD ls bs l1 (J + 1) = X := ⟨_, rfl⟩
                      rw [hX] at hst hlen hwx hI
                      have hBB := HBW.out.trans (hbw.mono HBW.out.size)
                      have hc1 := (hBB.cell (by rw [block_add]; exact hbk1)).trans hc1
                      have HI2 := Lib.hid (hi1.grow hBB)
                      have HLr := Lib.hid (HLw.out.grow hBB)
                      have HST := Lib.hid hst
                      have HL1 : Hid (X.length = lenL ll J) := hlen
                      have HL3 : Hid (m1.length = lenL ll J) := hlj.symm
                      have hh : lenL ll J ≤ 2048 := by have := HP0.out; omega
                      have HWX := Lib.hid hwx
                      have HW1 := Lib.hid hw1
                      have HBR := Lib.hid hbw
                      have x1 : (0 : Int) ≤ (J : Int) := by omega
                      have x2 : (J : Int) < (r : Int) := by have := HM.out; have := HNN.out; omega
                      have x3 : IntKind.i64.wrap ((J : Int) - 1) = (J : Int) - 1 := IntWalk.i64_in _ (by have := HM.out; omega)
                      have hs5 := hbw.size
                      rw [hX, hlen]
                      rw [← hlj] at hc1
                      clear hst hlen hlj hwx hw1 hbw hg1 hgb hwa hwb hX hi1 hz hle3 hBB
                      go_wp2_with (go_at_call 33; refine (r33_SynthN A C D1 ls X m1 c cc d1 (lenL ll J) _ HVH.out HL1.out HL3.out hh HWX.out HW1.out HLr.out hI HI2.out).mono ?_; rintro e' w6 ⟨C1, c1', rfl, i1, hb6⟩)
                      go_roundw
                      case rel => exact ⟨J, (J : Int) - 1, by omega, by go_num, rfl, ⟨C1, c1', by rw [HST.out], by rw [HST.out]; exact i1⟩, HBR.out.trans (hb6.mono hs5)⟩
                      case measure => simp [intOf]
                    | zero =>
                      obtain rfl : z = -1 := by simpa using hz
                      have HBR := Lib.hid hbw
                      have HIZ := Lib.hid hI
                      have hlen0 : (unD ls bs l1 0).length ≤ 100000 := by
                        have hb0 : bs[0]? = some (bs[0]'(by have := HML.out; have := HM.out; omega)) := List.getElem?_eq_getElem _
                        rw [unD_step hb0, synth_length, fit_len (ls := ls) HFIT.out HBA.out (M - 1) 0 (by have := HML.out; have := HM.out; omega)]
                        have := HP0.out; omega
                      have HX0 : Hid (unX ls ll = unD ls bs l1 0) := by
                        show _ = _
                        unfold unX
                        rw [if_pos HE.out, HBA.out, List.dropLast_concat, unD_zero]
                        simp
                      obtain ⟨X, hX⟩ : ∃ X, unD ls bs l1 0 = X := ⟨_, rfl⟩
                      rw [hX] at HIZ hlen0 HX0 ⊢
                      have hsz := hbw.size
                      clear hz hbw hI hX
                      go_wp2_with (at_builtin; refine app_intsN _ rfl (.tmp 91) (.tmp 92) rfl wr.heap.size rfl rfl rfl (Own.empty rfl) (HIZ.out.grow ((Below.refl _ _).alloc (Nat.le_refl _) _)) (by simp; omega) (by simp) ?_; intro v1 w1 ho1 hg1 hv1)
                      have hbw1 : Below wr.heap.size wr w1 := (((Below.refl wr.heap.size wr).alloc (Nat.le_refl _) _).grown hg1 (by simp) (fun k hk => by injection hk with hk; subst hk; exact Nat.le_refl _))
                      rw [List.nil_append] at ho1
                      obtain ⟨C5, c5, rfl, _, i5⟩ := ho1.form
                      go_wp2
                      go_ret2
                      rw [HX0.out, HE.out]
                      exact ⟨C5, c5, rfl, i5, (HBW.out.trans (HBR.out.mono HBW.out.size)).trans (hbw1.mono (Nat.le_trans HBW.out.size hsz))⟩
            · have d1 : decide ((4096 : Int) < 2 * (r0 : Int)) = true := by simp; omega
              have HE := Lib.hid (unE_3 hv HFIT.out (by rw [HSUM.out]; exact hle))
              have HQ2 := Lib.hid (un_no (ls := ls) (ll := ll) HE.out (by decide))
              go_wp2_with fail
              go_ret2
              rw [HQ2.out, HE.out]
              exact ⟨none, 0, rfl, Ints.nil, HBW.out⟩
      · have HE := Lib.hid (unE_2 hv (fitB_last HLN.out (by rw [HQ1.out, HQ0.out]; exact heq)))
        have HQ := Lib.hid (un_no (ls := ls) (ll := ll) HE.out (by decide))
        have x7 : ¬ ((a : Int) = (b : Int)) := by omega
        go_enter Try.func17, Try.ntmps17
        go_wp2_with ((go_at_call 28; refine (r33_Valid A ls c _ hL hl HL2.out).mono ?_; rintro e' w1 ⟨rfl, rfl⟩; rw [HV.out]))
        go_region_held3 (fun w' => w'.cell? (ad.add M) = some (.slice B1 a c1) ∧ w'.cell? (ad.add N) = some (.slice B0 b c0)) (exact S0.out) (first | (go_at_call 29; refine (rf_In _ _ _ _).mono ?_; rintro e' w1 ⟨rfl, rfl⟩; rw [HIN.out]))
        all_goals
          clear x1 x2 x3 x4 x5 x6
          go_wp2
          go_ret2
          rw [HQ.out, HE.out]
          exact ⟨none, 0, rfl, Ints.nil, (Below.refl _ _).drew⟩
end Go.Proofs.Ytimhplkkgbpapaa
