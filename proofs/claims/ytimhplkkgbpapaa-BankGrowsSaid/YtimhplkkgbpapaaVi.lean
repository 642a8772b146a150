/- The walk of the law BankTreesReconstruct. -/
import Derived.Test.YtimhplkkgbpapaaVh
namespace Go.Proofs.Ytimhplkkgbpapaa
open Go.RowKit

theorem pow_split {L : Nat} (h : L ≤ 6) : 64 = 2 ^ L * 2 ^ (6 - L) := by
  rw [← Nat.pow_add, show L + (6 - L) = 6 by omega]
theorem len_le_sum {ll : List (List Int)} {l : List Int} (h : l ∈ ll) : l.length ≤ sumL ll := by
  induction ll with
  | nil => cases h
  | cons a t ih =>
    have e : sumL (a :: t) = a.length + sumL t := by simp [sumL]
    rw [e]
    rcases List.mem_cons.1 h with rfl | h
    · omega
    · have := ih h; omega
/-- The number of words of the law. -/
def tnF (n L : Nat) : Nat := min (n / 2 ^ L * 2 ^ L) 64
theorem tnF_pow {n L : Nat} (h : L ≤ 6) : ∃ m, tnF n L = 2 ^ L * m := by
  unfold tnF
  rcases Nat.le_total (n / 2 ^ L * 2 ^ L) 64 with h1 | h1
  · exact ⟨n / 2 ^ L, by rw [Nat.min_eq_left h1, Nat.mul_comm]⟩
  · exact ⟨2 ^ (6 - L), by rw [Nat.min_eq_right h1]; exact pow_split h⟩
/-- Bands and no error. -/
def GotB (w : World) (ll : List (List Int)) (n : Nat) (e : Ending) (w' : World) : Prop := ∃ A c, e = .returned (.tuple #[.slice A n c, .int .i64 0]) ∧ IntsL w' A ll ∧ Below w.heap.size w w'
theorem got_Tree (A B : Option Addr) (ls : List Lft) (x : List Int) (c d n L m : Nat) (w : World) (hok : lftsB ls = true) (h1 : 1 ≤ L) (h6 : L ≤ 6) (hx : x.length = 2 ^ L * m) (hn : n = x.length) (hh : n ≤ 4096) (hw : W32 x) (hL : Lifts w A ls) (hI : Ints w B x) :
    Calls Try.prog 14 #[.slice A ls.length c, .slice B n d, .int .i64 (L : Int)] w (GotB w (treeB ls x L) (L + 1)) := by
  subst hn
  obtain ⟨k1, k2⟩ := lftsB_coefs hok
  refine (bk_Tree A B ls x c d L w hL hI k1 k2 (by omega) ⟨by omega, by omega⟩).mono ?_
  rintro e w' ⟨A1, c1, rfl, hi, hb⟩
  have hoT : okT (L : Int) x.length = true := by
    rw [okT_pos h1 h6, hx]
    simp
  have h0 : trE ls x (L : Int) = 0 := trE_ok hok hoT hh hw
  have hl : trL ls x (L : Int) = treeB ls x L := by unfold trL; rw [if_pos h0]; rfl
  rw [hl] at hi ⊢
  rw [h0, treeB_length]
  exact ⟨A1, c1, rfl, hi, hb⟩
theorem got_Untree (A B : Option Addr) (ls : List Lft) (x : List Int) (c d L m : Nat) (w : World) (hok : lftsB ls = true) (h1 : 1 ≤ L) (h6 : L ≤ 6) (hx : x.length = 2 ^ L * m) (hh : x.length ≤ 4096) (hw : W32 x) (hL : Lifts w A ls) (hI : IntsL w B (treeB ls x L)) :
    Calls Try.prog 16 #[.slice A ls.length c, .slice B (L + 1) d] w (Got1 w x) := by
  obtain ⟨k1, k2⟩ := lftsB_coefs hok
  have hs := treeB_sum (ls := ls) hx
  have hle : ∀ l ∈ treeB ls x L, l.length ≤ 1000000 := fun l hl => by
    have := len_le_sum hl
    omega
  refine (bk_Untree A B ls (treeB ls x L) c d (L + 1) w hL hI (treeB_length _ _ _).symm k1 k2 (by omega) hle).mono ?_
  rintro e w' ⟨A1, c1, rfl, hi, hb⟩
  have h0 : unE ls (treeB ls x L) = 0 := unE_ok hok (fitB_tree h1 h6 hx) (by omega) (w32_tree hw L)
  have hl : unX ls (treeB ls x L) = x := by
    unfold unX
    rw [if_pos h0]
    unfold treeB
    rw [List.dropLast_concat]
    simp only [List.getLastD_concat]
    exact un_tree hx hw L (Nat.le_refl _)
  rw [hl] at hi ⊢
  rw [h0]
  exact ⟨A1, c1, rfl, hi, hb⟩
set_option maxRecDepth 100000 in
set_option maxHeartbeats 4000000 in
theorem law_BankTreesReconstruct (u : (Option Addr × Nat × List Bool) × (Option Addr × Nat × List Int) × (Option Addr × Nat × List Int) × (Option Addr × Nat × List Int)) (t : Option Addr × Nat × List Int) (lv : Int) (w : World) (hu : StepsAt w u) (ht : Ints w t.1 t.2.2 ∧ t.2.2.length ≤ 9223372036854775807) (_ : I64 lv) :
    Calls Try.prog 6 #[stepsV u, .slice t.1 t.2.2.length t.2.1, .int .i64 lv] w fun e w' => e = .returned (.bool true) ∧ Below w.heap.size w w' := by
  obtain ⟨ls, hok, hcl⟩ := got_Lifts u
  obtain ⟨T, ct, x⟩ := t
  obtain ⟨ht, htl⟩ := ht
  simp only at ht htl ⊢
  have hu2 : ∀ o, StepsAt (w.alloc o) u := fun o => by
    obtain ⟨⟨h1, k1⟩, ⟨h2, k2⟩, ⟨h3, k3⟩, ⟨h4, k4⟩⟩ := hu
    have hb := (Below.refl w.heap.size w).alloc (Nat.le_refl _) o
    exact ⟨⟨h1.grow hb, k1⟩, ⟨h2.grow hb, k2⟩, ⟨h3.grow hb, k3⟩, ⟨h4.grow hb, k4⟩⟩
  have ht2 := fun o => ht.grow ((Below.refl _ _).alloc (Nat.le_refl _) o)
  have HU2 := Lib.hid hu2
  have HT2 := Lib.hid ht2
  have hb0 := fun o => (Below.refl w.heap.size w).alloc (Nat.le_refl _) o
  have HB0 := Lib.hid hb0
  obtain ⟨⟨O, c1, os⟩, ⟨S, c2, st⟩, ⟨C, c3, cf⟩, ⟨H, c4, sh⟩⟩ := u
  have HCL : Hid (∀ w, StepsAt w ((O, c1, os), (S, c2, st), (C, c3, cf), (H, c4, sh)) → Calls Try.prog 7 #[.agg #[.slice O os.length c1, .slice S st.length c2, .slice C cf.length c3, .slice H sh.length c4]] w (GotL w ls)) := hcl
  have HOK := Lib.hid hok
  obtain ⟨q, hq⟩ : ∃ q, withinF lv 4 = q := ⟨_, rfl⟩
  have hq1 := within_in (m := 4) (by omega) lv
  rw [hq] at hq1
  obtain ⟨q1, q2⟩ := hq1
  have hwq : ∀ w, Calls Try.prog 18 #[.int .i64 lv, .int .i64 4] w fun e w' => e = .returned (.int .i64 q) ∧ w = w' := fun w => by rw [← hq]; exact wd_Within _ _ w (by omega)
  have HWQ := Lib.hid hwq
  obtain ⟨L, hLq⟩ := Int.eq_ofNat_of_zero_le (by omega : 0 ≤ 1 + q)
  have hL1 : 1 ≤ L := by omega
  have hL4 : L ≤ 4 := by omega
  have e0 : IntKind.i64.wrap (1 + q) = (L : Int) := by rw [IntWalk.i64_in _ (by omega)]; exact hLq
  obtain ⟨X, hX⟩ : ∃ X, x.length = X := ⟨_, rfl⟩
  obtain ⟨Q, hQ⟩ : ∃ Q, X / 2 ^ L = Q := ⟨_, rfl⟩
  obtain ⟨N, hN⟩ : ∃ N, Q * 2 ^ L = N := ⟨_, rfl⟩
  have hNX : N ≤ X := by rw [← hN, ← hQ]; exact Nat.div_mul_le_self _ _
  have hPP : ((2 : Int) ^ L) = ((2 ^ L : Nat) : Int) := by simp
  have e1 : (X : Int) / (2 : Int) ^ L = (Q : Int) := by rw [hPP, ← hQ]; simp
  have e2 : IntKind.i64.wrap ((Q : Int) * (2 : Int) ^ L) = (N : Int) := by
    rw [hPP, ← Int.natCast_mul, hN, IntWalk.i64_in _ (by omega)]
  have e3 : IntKind.u64.wrap (L : Int) = (L : Int) := IntWalk.u64_in _ (by omega)
  obtain ⟨M, hM⟩ : ∃ M, min N 64 = M := ⟨_, rfl⟩
  have hMn : M = tnF X L := by unfold tnF; rw [hQ, hN, hM]
  obtain ⟨m, hm⟩ := tnF_pow (n := X) (L := L) (by omega)
  rw [← hMn] at hm
  have HX := Lib.hid hX
  have HM := Lib.hid hM
  have HMP := Lib.hid hm
  have hMX : M ≤ X := by omega
  have hM64 : M ≤ 64 := by omega
  clear hu2 ht2 hcl hb0 hok ht hu hq hwq hLq hQ hN hPP hMn hm hM
  rw [hX] at htl ⊢
  clear hX
  unfold stepsV
  simp only
  go_enter Try.func6, Try.ntmps6
  go_wp2_with fail
  refine (HCL.out _ (HU2.out _)).mono ?_
  rintro e w1 ⟨A, cA, rfl, hL, hb1⟩
  have hb := (HB0.out _).trans (hb1.mono (HB0.out _).size)
  have hT := (HT2.out _).grow hb1
  clear hb1 HU2 HT2 HB0 HCL
  go_wp2_with fail
  refine (HWQ.out _).mono ?_
  rintro e w9 ⟨rfl, rfl⟩
  have hL3 : 1 ≤ L ∧ L ≤ 4 := ⟨hL1, hL4⟩
  have HL3 := Lib.hid hL3
  clear hL3
  go_upto_if 31 with fail
  clear e0 e1 e2 e3 q1 q2
  go_cut [8] (fun s8 wx => s8 = .int .i64 M ∧ wx = w1)
  case first =>
    have hM := HM.out
    by_cases h6 : 64 < N
    · have d1 : decide ((64 : Int) < (N : Int)) = true := by simp; omega
      obtain rfl : M = 64 := by omega
      go_wp2_with fail
      go_meet
      exact ⟨rfl, rfl⟩
    · have d1 : decide ((64 : Int) < (N : Int)) = false := by simp; omega
      obtain rfl : M = N := by omega
      go_wp2_with fail
      go_meet
      exact ⟨rfl, rfl⟩
  case rest =>
    obtain ⟨rfl, rfl⟩ := hcut
    have HLw := Lib.hid hL
    have HB := Lib.hid hb
    have HT := Lib.hid hT
    have HMX : Hid (M ≤ x.length) := by show _ ≤ _; rw [HX.out]; exact hMX
    clear hL hb hT hMX hNX HM
    go_wp2_with fail
    go_loopw [9, 10] (fun v i wr => ∃ k : Nat, k ≤ M ∧ i = .int .i64 k ∧ Own wc.heap.size wr v (wdF x k) ∧ Below wc.heap.size wc wr) (fun _ i _ => M - (intOf i).toNat)
    case atStart => exact ⟨0, Nat.zero_le _, rfl, Own.nil, Below.refl _ _⟩
    case round =>
      obtain ⟨k, hk, rfl, hown, hbw⟩ := hrel
      by_cases h1 : k < M
      · have HS := Lib.hid (wdF_succ x k)
        have hlen := wdF_length x k
        have hlen' : (wdF x k).length < 100000000 := by omega
        obtain ⟨ad, y, rfl, hb, hy, hc, y1, y2⟩ := (HT.out.grow hbw).at_ (k := k) (by have := HMX.out; omega)
        have HE : Hid (el x k = y) := by unfold el; rw [hy]; exact rfl
        obtain ⟨z, hz⟩ : ∃ z, wrapF 32 y = z := ⟨_, rfl⟩
        obtain ⟨g1, g2⟩ := w32_wrap y
        rw [hz] at g1 g2
        have HZ := Lib.hid hz
        have hI : I64 z := ⟨by omega, by omega⟩
        have kX : k < X := by have := HMX.out; have := HX.out; omega
        clear hlen hy hz
        go_wp2_with (first
          | (go_at_call 19; refine (rf_Wrap 32 y _).mono ?_; rintro e w' ⟨rfl, rfl⟩; rw [HZ.out])
          | (at_builtin; refine app_int wr rfl _ _ rfl wc.heap.size hown rfl rfl hlen' hbw.size hI ?_; intro v1 w1 hown1 hbel1))
        go_roundw
        case rel => exact ⟨k + 1, by omega, by go_num, by rw [HS.out, HE.out, HZ.out]; exact hown1, hbw.trans hbel1⟩
        case measure => simp [intOf]; omega
      · obtain rfl : k = M := by omega
        have hw := wdF_w32 x k
        have hlen := wdF_length x k
        obtain ⟨y, hy⟩ : ∃ y, wdF x k = y := ⟨_, rfl⟩
        rw [hy] at hown hw hlen
        obtain ⟨B, cB, rfl, _, hI⟩ := hown.form
        rw [hlen]
        have hL := HLw.out.grow hbw
        have hb := HB.out.trans (hbw.mono HB.out.size)
        have QT : Hid (∀ (w : World) (A B : Option Addr) (c d : Nat), Lifts w A ls → Ints w B y → Calls Try.prog 14 #[.slice A ls.length c, .slice B k d, .int .i64 (L : Int)] w (GotB w (treeB ls y L) (L + 1))) := fun w A B c d g0 g1 => got_Tree A B ls y c d k L m w HOK.out HL3.out.1 (by have := HL3.out; omega) (by rw [hlen]; exact HMP.out) hlen.symm (by omega) hw g0 g1
        have QU : Hid (∀ (w : World) (A B : Option Addr) (c d : Nat), Lifts w A ls → IntsL w B (treeB ls y L) → Calls Try.prog 16 #[.slice A ls.length c, .slice B (L + 1) d] w (Got1 w y)) := fun w A B c d g0 g1 => got_Untree A B ls y c d L m w HOK.out HL3.out.1 (by have := HL3.out; omega) (by rw [hlen]; exact HMP.out) (by omega) hw g0 g1
        have HSU : Hid (sumL (treeB ls y L) = k) := by show _ = _; rw [treeB_sum (m := m) (by rw [hlen]; exact HMP.out), hlen]
        have HLY := Lib.hid hlen
        have hTl := treeB_length ls y L
        obtain ⟨tb, htb⟩ : ∃ tb, treeB ls y L = tb := ⟨_, rfl⟩
        rw [htb] at QT QU HSU hTl
        have HTL := Lib.hid hTl
        clear hy hw hlen hown hbw hTl htb hk h1
        go_wp2_with fail
        refine (QT.out _ _ _ _ _ hL hI).mono ?_
        rintro e w3 ⟨D, dD, rfl, iD, hb1⟩
        have hb := below_then hb hb1
        have hL := hL.grow hb1
        have hI := hI.grow hb1
        clear hb1
        go_wp2_with fail
        refine (QU.out _ _ _ _ _ hL iD).mono ?_
        rintro e w4 ⟨E, dE, rfl, iE, hb1⟩
        have hb := below_then hb hb1
        have hI := hI.grow hb1
        have iD := iD.grow hb1
        clear hb1 hL
        rw [HLY.out]
        have HID := Lib.hid iD
        have HII := Lib.hid hI
        have HIE := Lib.hid iE
        have HBB := Lib.hid hb
        have L4 : L ≤ 4 := HL3.out.2
        have HSL : Hid (∀ l ∈ tb, l.length ≤ k) := fun l hl => by have := len_le_sum hl; have := HSU.out; omega
        clear iD hI iE hb
        go_wp2_with fail
        go_loopw [15, 16] (fun s i wr => ∃ r t : Nat, r ≤ L + 1 ∧ i = .int .i64 r ∧ s = .int .i64 t ∧ t = sumL (tb.take r) ∧ wr = w4) (fun _ i _ => L + 1 - (intOf i).toNat)
        case atStart => exact ⟨0, 0, Nat.zero_le _, rfl, rfl, by simp [sumL], rfl⟩
        case round =>
          obtain ⟨r, t, hr, rfl, rfl, ht, rfl⟩ := hrel
          by_cases hlt : r < L + 1
          · obtain ⟨ad, l1, B1, c1, rfl, hb1, hg1, hc1, _⟩ := HID.out.at_ (k := r) (by have := HTL.out; omega)
            have hts : t + l1.length = sumL (tb.take (r + 1)) := by rw [take_sum hg1, ht]
            have hle : sumL (tb.take r) ≤ 100 * 100 := by
              have h1 := sum_le (ll := tb.take r) (b := 100) (fun l hl => by have := HSL.out l (List.mem_of_mem_take hl); omega)
              have h2 : (tb.take r).length ≤ 100 := by rw [List.length_take]; omega
              exact Nat.le_trans h1 (Nat.mul_le_mul_right _ h2)
            have hll := HSL.out l1 (List.mem_of_getElem? hg1)
            rw [← ht] at hle
            obtain ⟨a, ha⟩ : ∃ a, l1.length = a := ⟨_, rfl⟩
            rw [ha] at hc1 hts hll
            have HTS := Lib.hid hts
            have x1 : IntKind.i64.wrap ((t : Int) + (a : Int)) = (t : Int) + (a : Int) := IntWalk.i64_in _ (by omega)
            have r1 : (r : Int) < (L : Int) + 1 := by omega
            clear ht hts ha hg1 hb1
            go_wp2
            go_roundw
            case rel => exact ⟨r + 1, t + a, by omega, by go_num, by go_num, HTS.out, by trivial⟩
            case measure => simp [intOf]; omega
          · obtain rfl : r = L + 1 := by omega
            rw [List.take_of_length_le (by have := HTL.out; omega), HSU.out] at ht
            obtain rfl := ht
            go_wp2_with fail
            refine (known33 _).mono ?_
            rintro e w7 ⟨rfl, hk1⟩
            have hb := below_then HBB.out hk1
            have hI := HII.out.grow hk1
            have iE := HIE.out.grow hk1
            clear hk1
            go_wp2_with fail
            refine (rf_SameN _ _ y y _ _ _ _ _ HLY.out HLY.out (by omega) rfl iE hI).mono ?_
            rintro e w8 ⟨rfl, hk1⟩
            have hb := below_then hb hk1
            clear hk1 iE hI
            go_wp2
            go_ret
            exact ⟨rfl, hb⟩
end Go.Proofs.Ytimhplkkgbpapaa
