/- The walk of the law BankGrows. -/
import Derived.Test.YtimhplkkgbpapaaR6
namespace Go.Proofs.Ytimhplkkgbpapaa
open Go.RowKit

theorem trL_len {ls : List Lft} {x : List Int} {lv : Int} : ∀ l ∈ trL ls x lv, l.length ≤ x.length := fun l hl => by
  unfold trL at hl
  split at hl
  · rename_i h0
    obtain ⟨_, h2, _, _⟩ := trE_zero h0
    unfold okT at h2
    rw [Bool.and_eq_true, Bool.and_eq_true, decide_eq_true_eq, decide_eq_true_eq] at h2
    obtain ⟨h3, h4, h5⟩ := h2
    obtain ⟨L, rfl⟩ := Int.eq_ofNat_of_zero_le (by omega : 0 ≤ lv)
    rw [Int.toNat_natCast] at h5 hl
    obtain ⟨m, hm⟩ := len_pow (by simpa using h5)
    have := treeB_sum (ls := ls) hm
    have := len_le_sum hl
    omega
  · cases hl
theorem trL_count {ls : List Lft} {x : List Int} {lv : Int} : (trL ls x lv).length ≤ 7 := by
  unfold trL
  split
  · rename_i h0
    obtain ⟨_, h2, _, _⟩ := trE_zero h0
    unfold okT at h2
    rw [Bool.and_eq_true, Bool.and_eq_true, decide_eq_true_eq, decide_eq_true_eq] at h2
    rw [treeB_length]
    omega
  · simp
theorem unX_len {ls : List Lft} {ll : List (List Int)} : (unX ls ll).length ≤ 4096 := by
  unfold unX
  split
  · rename_i h0
    obtain ⟨_, z2, z3, _⟩ := unE_zero h0
    have hf := fitB_iff.1 z2
    have hll0 : ll ≠ [] := by intro h; have := hf.1; rw [h] at this; simp at this
    obtain ⟨bs, a, hba⟩ : ∃ bs a, ll = bs ++ [a] := ⟨ll.dropLast, ll.getLast hll0, (List.dropLast_concat_getLast hll0).symm⟩
    have hbl : bs.length + 1 = ll.length := by rw [hba]; simp
    have hs := fit_sum (ll := ll) (ll.length - 2) (by have := hf.1; omega) hf.2.2.1 hf.2.2.2
    have h1 := hf.1
    have hb0 : bs[0]? = some (bs[0]'(by omega)) := List.getElem?_eq_getElem _
    have hlen := fit_len (ls := ls) z2 hba (bs.length - 1) 0 (by omega)
    have e : unF ls ll.dropLast (ll.getLastD []) = unD ls bs a 0 := by
      rw [hba, List.dropLast_concat, unD_zero]
      simp
    rw [e, unD_step hb0, synth_length, hlen]
    omega
  · simp
theorem lightB_parts {ls : List Lft} (h : lightB ls = true) : ls.length ≤ 20 ∧ ∀ s ∈ ls, s.2.2.1.length ≤ 20 := by
  unfold lightB at h
  rw [Bool.and_eq_true, decide_eq_true_eq] at h
  exact ⟨h.2, fun s hs => of_decide_eq_true (List.all_eq_true.1 h.1 s hs)⟩
set_option maxRecDepth 100000 in
set_option maxHeartbeats 4000000 in
theorem law_BankGrows (u : Option Addr × Nat × List Lft) (t : Option Addr × Nat × List Int) (lv : Int) (v : Option Addr × Nat × List (List Int)) (w : World)
    (hu : Lifts w u.1 u.2.2 ∧ u.2.2.length ≤ 9223372036854775807 ∧ ∀ s ∈ u.2.2, s.2.2.1.length ≤ 9223372036854775807) (ht : Ints w t.1 t.2.2 ∧ t.2.2.length ≤ 9223372036854775807) (hlv : I64 lv) (hvv : IntsL w v.1 v.2.2 ∧ v.2.2.length ≤ 9223372036854775807 ∧ ∀ l ∈ v.2.2, l.length ≤ 9223372036854775807) :
    Calls Try.prog 5 #[.slice u.1 u.2.2.length u.2.1, .slice t.1 t.2.2.length t.2.1, .int .i64 lv, .slice v.1 v.2.2.length v.2.1] w fun e w' => e = .returned (.bool true) ∧ Below w.heap.size w w' := by
  obtain ⟨A, cA, ls⟩ := u
  obtain ⟨T, cT, x⟩ := t
  obtain ⟨B, cB, ll⟩ := v
  obtain ⟨hL, hl1, hl2⟩ := hu
  obtain ⟨hI, hxl⟩ := ht
  obtain ⟨hB, hbl, hbl2⟩ := hvv
  simp only at hL hl1 hl2 hI hxl hB hbl hbl2 ⊢
  have HL2 := Lib.hid hl2
  have HBL2 := Lib.hid hbl2
  have HLV := Lib.hid hlv
  clear hl2 hbl2 hlv
  obtain ⟨X, hX⟩ : ∃ X, x.length = X := ⟨_, rfl⟩
  obtain ⟨N, hN⟩ : ∃ N, ll.length = N := ⟨_, rfl⟩
  have HXL := Lib.hid hX
  have HNL := Lib.hid hN
  rw [hX] at hxl ⊢
  rw [hN] at hbl ⊢
  clear hX hN
  rcases hlt : lightB ls with _ | _
  · have HG := Lib.hid hlt
    clear hlt
    go_enter Try.func5, Try.ntmps5
    go_wp2_with (first
      | (go_at_call 13; refine (l33_light A ls cA _ hL hl1 HL2.out).mono ?_; rintro e w1 ⟨rfl, rfl⟩; rw [HG.out])
      | (go_at_call 9; refine (known33 _).mono ?_; rintro e w1 ⟨rfl, hk⟩))
    go_ret
    exact ⟨rfl, hk⟩
  · obtain ⟨hll, hlc⟩ := lightB_parts hlt
    have HG := Lib.hid hlt
    have HLC := Lib.hid hlc
    clear hlt hlc
    by_cases hx : X ≤ 130
    · have d1 : decide ((130 : Int) < (X : Int)) = false := by simp; omega
      by_cases hn : N ≤ 12
      · have d2 : decide ((12 : Int) < (N : Int)) = false := by simp; omega
        go_enter Try.func5, Try.ntmps5
        go_wp2_with (go_at_call 13; refine (l33_light A ls cA _ hL hl1 HL2.out).mono ?_; rintro e w1 ⟨rfl, rfl⟩; rw [HG.out])
        have HLw := Lib.hid hL
        have HIw := Lib.hid hI
        have HBw := Lib.hid hB
        clear d1 d2 hL hI hB
        go_loopw [9] (fun i wr => ∃ r : Nat, r ≤ N ∧ i = .int .i64 r ∧ Hid (∀ j l, j < r → ll[j]? = some l → l.length ≤ 70) ∧ wr = w) (fun i _ => N - (intOf i).toNat)
        case atStart => exact ⟨0, Nat.zero_le _, rfl, fun j l hj => absurd hj (Nat.not_lt_zero _), rfl⟩
        case round =>
          obtain ⟨r, hr, rfl, HALL, rfl⟩ := hrel
          by_cases hlt : r < N
          · obtain ⟨ad, m1, D1, d1, rfl, hbk1, hgk1, hck1, him1⟩ := HBw.out.at_ (k := r) (by have := HNL.out; omega)
            have t1 := HBL2.out m1 (List.mem_of_getElem? hgk1)
            obtain ⟨r1, hr1⟩ : ∃ a, m1.length = a := ⟨_, rfl⟩
            rw [hr1] at hck1 t1
            have HGK := Lib.hid hgk1
            have HR1 := Lib.hid hr1
            clear hgk1 hr1
            by_cases h70 : r1 ≤ 70
            · have d1 : decide ((70 : Int) < (r1 : Int)) = false := by simp; omega
              go_wp2_with fail
              go_roundw
              case rel => exact ⟨r + 1, by omega, by go_num, fun j l hj hjl => by
                rcases Nat.lt_or_ge j r with h | h
                · exact HALL.out j l h hjl
                · obtain rfl : j = r := by omega
                  have h2 := HGK.out
                  rw [hjl] at h2
                  injection h2 with h2
                  rw [h2, HR1.out]; exact h70, by trivial⟩
              case measure => simp [intOf]; omega
            · have d1 : decide ((70 : Int) < (r1 : Int)) = true := by simp; omega
              go_wp2_with (go_at_call 9; refine (known33 _).mono ?_; rintro e w1 ⟨rfl, hk⟩)
              go_ret
              exact ⟨rfl, hk⟩
          · obtain rfl : r = N := by omega
            have h70 : ∀ l ∈ ll, l.length ≤ 1000000 := fun l hl => by
              obtain ⟨j, hj, rfl⟩ := List.getElem_of_mem hl
              have := HALL.out j ll[j] (by have := HNL.out; omega) (List.getElem?_eq_getElem hj)
              omega
            have QT : Hid (∀ (w : World), Lifts w A ls → Ints w T x → Calls Try.prog 14 #[.slice A ls.length cA, .slice T X cT, .int .i64 lv] w (RetIntsL w (trL ls x lv) (trE ls x lv))) := fun w g0 g1 => by
              have := bk_Tree A T ls x cA cT lv w g0 g1 (by omega) HL2.out (by have := HXL.out; omega) HLV.out
              rw [HXL.out] at this; exact this
            have QR : Hid (∀ (w : World), Lifts w A ls → Ints w T x → Calls Try.prog 15 #[.slice A ls.length cA, .slice T X cT, .int .i64 lv] w (RetIntsL w (trL ls x lv) (trE ls x lv))) := fun w g0 g1 => by
              have := r33_Tree A T ls x cA cT lv w g0 g1 (by omega) HL2.out (by have := HXL.out; omega) HLV.out
              rw [HXL.out] at this; exact this
            have QU : Hid (∀ (w : World), Lifts w A ls → IntsL w B ll → Calls Try.prog 16 #[.slice A ls.length cA, .slice B r cB] w (RetI w (unX ls ll) (unE ls ll))) := fun w g0 g1 => bk_Untree A B ls ll cA cB r w g0 g1 HNL.out.symm (by omega) HL2.out (by omega) h70
            have QV : Hid (∀ (w : World), Lifts w A ls → IntsL w B ll → Calls Try.prog 17 #[.slice A ls.length cA, .slice B r cB] w (RetI w (unX ls ll) (unE ls ll))) := fun w g0 g1 => r33_Untree A B ls ll cA cB r w g0 g1 HNL.out.symm (by omega) HL2.out (by omega) h70
            have HTL : Hid (∀ l ∈ trL ls x lv, l.length ≤ 130) := fun l hl => by have := trL_len l hl; have := HXL.out; omega
            obtain ⟨tb, htb⟩ : ∃ tb, trL ls x lv = tb := ⟨_, rfl⟩
            obtain ⟨E, hE⟩ : ∃ E, trE ls x lv = E := ⟨_, rfl⟩
            obtain ⟨Y, hY⟩ : ∃ Y, unX ls ll = Y := ⟨_, rfl⟩
            obtain ⟨G, hG⟩ : ∃ G, unE ls ll = G := ⟨_, rfl⟩
            rw [htb, hE] at QT QR
            rw [hY, hG] at QU QV
            rw [htb] at HTL
            have HTC : Hid (tb.length ≤ 7) := by show _ ≤ _; rw [← htb]; exact trL_count
            have HYL : Hid (Y.length ≤ 4096) := by show _ ≤ _; rw [← hY]; exact unX_len
            clear h70 htb hE hY hG hlt hr
            go_wp2_with fail
            refine (QT.out _ HLw.out HIw.out).mono ?_
            rintro e w1 ⟨A1, e1, rfl, i1, hb1⟩
            have hb := hb1
            have hL := HLw.out.grow hb
            have hI := HIw.out.grow hb
            clear hb1
            go_wp2_with fail
            refine (QR.out _ hL hI).mono ?_
            rintro e w2 ⟨A2, e2, rfl, i2, hb1⟩
            have hb := below_then hb hb1
            have hL := hL.grow hb1
            have i1 := i1.grow hb1
            have hB := HBw.out.grow hb
            clear hb1 hI
            go_wp2_with fail
            refine (QU.out _ hL hB).mono ?_
            rintro e w3 ⟨A3, e3, rfl, i3, hb1⟩
            have hb := below_then hb hb1
            have hL := hL.grow hb1
            have i1 := i1.grow hb1
            have i2 := i2.grow hb1
            have hB := hB.grow hb1
            clear hb1
            go_wp2_with fail
            refine (QV.out _ hL hB).mono ?_
            rintro e w4 ⟨A4, e4, rfl, i4, hb1⟩
            have hb := below_then hb hb1
            have i1 := i1.grow hb1
            have i2 := i2.grow hb1
            have i3 := i3.grow hb1
            clear hb1 hL hB
            go_wp2_with fail
            refine (rf_SameB _ _ Y Y _ _ _ (by have := HYL.out; omega) rfl i3 i4).mono ?_
            rintro e w5 ⟨rfl, hb1⟩
            have hb := below_then hb hb1
            have HI1 := Lib.hid (i1.grow hb1)
            have HI2 := Lib.hid (i2.grow hb1)
            have HBB := Lib.hid hb
            clear hb1 i1 i2 i3 i4 hb
            obtain ⟨K, hK⟩ : ∃ K, tb.length = K := ⟨_, rfl⟩
            have HK := Lib.hid hK
            have hK7 : K ≤ 7 := by rw [← hK]; exact HTC.out
            rw [hK]
            clear hK
            go_wp2_with fail
            go_loopw [18] (fun i wr => ∃ q : Nat, q ≤ K ∧ i = .int .i64 q ∧ Below w5.heap.size w5 wr) (fun i _ => K - (intOf i).toNat)
            case atStart => exact ⟨0, Nat.zero_le _, rfl, Below.refl _ _⟩
            case round =>
              obtain ⟨q, hq, rfl, hbw⟩ := hrel
              by_cases hlt2 : q < K
              · obtain ⟨ad1, m1, D1, f1, h1, hbk1, hgk1, hck1, him1⟩ := (HI1.out.grow hbw).at_ (k := q) (by have := HK.out; omega)
                obtain ⟨ad2, m2, D2, f2, h2, hbk2, hgk2, hck2, him2⟩ := (HI2.out.grow hbw).at_ (k := q) (by have := HK.out; omega)
                subst h1
                subst h2
                rw [hgk1] at hgk2
                injection hgk2 with hgk2
                subst hgk2
                have t1 := HTL.out m1 (List.mem_of_getElem? hgk1)
                obtain ⟨r1, hr1⟩ : ∃ a, m1.length = a := ⟨_, rfl⟩
                rw [hr1] at hck1 hck2 t1
                have HR1 := Lib.hid hr1
                have HBW := Lib.hid hbw
                have S0 : Hid (wr.cell? (ad1.add q) = some (.slice D1 r1 f1) ∧ wr.cell? (ad2.add q) = some (.slice D2 r1 f2)) := ⟨hck1, hck2⟩
                have hbA : (ad1.add q).block < wr.heap.size := by rw [block_add]; exact hbk1
                have hbB : (ad2.add q).block < wr.heap.size := by rw [block_add]; exact hbk2
                have x1 : (0 : Int) ≤ (q : Int) := by omega
                have x2 : (q : Int) < (K : Int) := by omega
                have hsz := hbw.size
                have j1 := him1.grow ((Below.refl _ _).drew)
                have j2 := him2.grow ((Below.refl _ _).drew)
                clear hgk1 hr1 hck1 hck2 hbk1 hbk2 hbw him1 him2
                go_wp2_with fail
                go_region_held3 (fun w' => w'.cell? (ad1.add q) = some (.slice D1 r1 f1) ∧ w'.cell? (ad2.add q) = some (.slice D2 r1 f2))
                  (exact twoS hbA hbB S0 (by go_grown))
                  (first
                    | (go_at_call 11; refine (rf_SameN D1 D2 m1 m1 f1 f2 r1 r1 _ HR1.out HR1.out (by omega) rfl j1 j2).mono ?_; rintro e w6 ⟨rfl, hb6⟩; have hb7 := belowD hb6))
                all_goals
                  clear x1 x2
                  go_wp2
                  go_roundw
                  case rel => exact ⟨q + 1, by omega, by go_num, HBW.out.trans (hb7.mono hsz)⟩
                  case measure => simp [intOf]; omega
              · obtain rfl : q = K := by omega
                go_wp2_with (go_at_call 9; refine (known33 _).mono ?_; rintro e w6 ⟨rfl, hk⟩)
                go_ret
                exact ⟨rfl, below_then (HBB.out.trans (hbw.mono HBB.out.size)) hk⟩
      · have d2 : decide ((12 : Int) < (N : Int)) = true := by simp; omega
        go_enter Try.func5, Try.ntmps5
        go_wp2_with (first
          | (go_at_call 13; refine (l33_light A ls cA _ hL hl1 HL2.out).mono ?_; rintro e w1 ⟨rfl, rfl⟩; rw [HG.out])
          | (go_at_call 9; refine (known33 _).mono ?_; rintro e w1 ⟨rfl, hk⟩))
        go_ret
        exact ⟨rfl, hk⟩
    · have d1 : decide ((130 : Int) < (X : Int)) = true := by simp; omega
      go_enter Try.func5, Try.ntmps5
      go_wp2_with (first
        | (go_at_call 13; refine (l33_light A ls cA _ hL hl1 HL2.out).mono ?_; rintro e w1 ⟨rfl, rfl⟩; rw [HG.out])
        | (go_at_call 9; refine (known33 _).mono ?_; rintro e w1 ⟨rfl, hk⟩))
      go_ret
      exact ⟨rfl, hk⟩
end Go.Proofs.Ytimhplkkgbpapaa
