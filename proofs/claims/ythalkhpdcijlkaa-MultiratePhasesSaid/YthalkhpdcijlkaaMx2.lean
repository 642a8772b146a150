/- The law Rates of chapter 32. -/
import Derived.Test.YthalkhpdcijlkaaMk
import Derived.Test.YthalkhpdcijlkaaMt
import Derived.Test.YthalkhpdcijlkaaMv
import Derived.Test.YthalkhpdcijlkaaMz
import Derived.Test.YthalkhpdcijlkaaOl
namespace Go.Proofs.Ythalkhpdcijlkaa
open Go.RowKit

theorem phV_rows {x : List Int} {M : Int} {l : List Int} (h : l ∈ phV x M) : l.length ≤ x.length := by
  unfold phV at h
  split at h
  · rename_i hE
    unfold downE at hE
    split at hE
    · rename_i hp
      obtain ⟨l1, l2⟩ := inB_iff.1 hp
      unfold phF phN at h
      obtain ⟨j, hj, rfl⟩ := List.mem_map.1 h
      rw [if_pos (List.mem_range.1 hj), everyF_length]
      exact cnt_le _ _ _ (by omega)
    · omega
  · cases h
theorem Own.len {base : Nat} {w : World} {v : Value} {l : List Int} (h : Own base w v l) : l.length ≤ 9223372036854775807 := by
  rcases h.1.2 with ⟨_, h2⟩ | ⟨g, cap, cur, _, _, _, hn, hm, _⟩
  · omega
  · unfold maxLen at hm; omega
/-- A call hands back a slice that reads as l, of a length that Go can bear, and the number E. -/
def GetL (w : World) (l : List Int) (E : Int) (e : Ending) (w' : World) : Prop := ∃ A c, e = .returned (.tuple #[.slice A l.length c, .int .i64 E]) ∧ Ints w' A l ∧ Below w.heap.size w w' ∧ l.length ≤ 9223372036854775807
theorem RetInts.getL {w w' : World} {l : List Int} {E : Int} {e : Ending} (h : RetInts w l E e w') : GetL w l E e w' := by
  obtain ⟨v, rfl, ho, hb⟩ := h
  have hl := ho.len
  obtain ⟨A, c, rfl, _, hi⟩ := ho.form
  exact ⟨A, c, rfl, hi, hb, hl⟩
set_option maxRecDepth 100000 in
set_option maxHeartbeats 4000000 in
theorem law_MultirateRates (u : Option Addr × Nat × List Int) (M : Int) (v : Option Addr × Nat × List (List Int)) (w : World) (hu : Ints w u.1 u.2.2 ∧ u.2.2.length ≤ 9223372036854775807) (_ : I64 M)
    (hv : IntsL w v.1 v.2.2 ∧ v.2.2.length ≤ 9223372036854775807 ∧ ∀ l ∈ v.2.2, l.length ≤ 9223372036854775807) :
    Calls Try.prog 5 #[.slice u.1 u.2.2.length u.2.1, .int .i64 M, .slice v.1 v.2.2.length v.2.1] w fun e w' => e = .returned (.bool true) ∧ Below w.heap.size w w' := by
  obtain ⟨A, c, x⟩ := u
  obtain ⟨D, d, p⟩ := v
  obtain ⟨h, hx⟩ := hu
  obtain ⟨hp, hpl, hrows⟩ := hv
  simp only at h hx hp hpl hrows ⊢
  have hb := Below.refl w.heap.size w
  by_cases hlong : 400 < x.length ∨ 20 < p.length
  · go_enter Try.func5, Try.ntmps5
    go_wp2_with (go_at_call 8; refine (known32 _).mono ?_; rintro e w1 ⟨rfl, hb1⟩; have hb := below_then hb hb1)
    all_goals try (exfalso; omega)
    all_goals go_ret
    all_goals exact ⟨rfl, hb⟩
  have hx4 : x.length ≤ 400 := by omega
  have hp4 : p.length ≤ 20 := by omega
  clear hlong
  go_enter Try.func5, Try.ntmps5
  go_wp2
  all_goals try (exfalso; omega)
  go_loop [7] (fun i => ∃ k : Nat, k ≤ p.length ∧ i = .int .i64 k ∧ Hid (∀ l ∈ p.take k, l.length ≤ 100)) (fun i => p.length - (intOf i).toNat)
  case atStart => exact ⟨0, Nat.zero_le _, rfl, fun l hl => by simp at hl⟩
  case round =>
    obtain ⟨k, hk, rfl, HALL⟩ := hrel
    by_cases hlt : k < p.length
    · obtain ⟨ad, l, B, cc, rfl, hba, hl1, hcell, hints⟩ := hp.at_ hlt
      have hll := hrows l (List.mem_of_getElem? hl1)
      have HL := Lib.hid hl1
      clear hl1 hints hrows
      by_cases h1 : 100 < l.length
      · go_wp2_with (go_at_call 8; refine (known32 _).mono ?_; rintro e w1 ⟨rfl, hb1⟩; have hb := below_then hb hb1)
        all_goals try (exfalso; omega)
        go_ret
        exact ⟨rfl, hb⟩
      · go_wp2
        all_goals try (exfalso; omega)
        go_round
        case rel => exact ⟨k + 1, by omega, by go_num, fun q hq => by
          rw [take_snoc' HL.out] at hq
          rcases List.mem_append.1 hq with hq | hq
          · exact HALL.out q hq
          · simp at hq; subst hq; omega⟩
        case measure => simp [intOf]; omega
    · have hall : ∀ l ∈ p, l.length ≤ 1000000 := fun l hl => by
        have := HALL.out l (by rw [List.take_of_length_le (by omega)]; exact hl)
        omega
      have HRL := Lib.hid hall
      clear hall hrows HALL
      go_wp2_with fail
      all_goals try (exfalso; omega)
      refine (mr_Up A x c M _ hx h).mono ?_
      intro e w1 hh
      obtain ⟨A1, c1, rfl, hi1, hb1, n1⟩ := hh.getL
      have hb := below_then hb hb1
      have h := h.grow hb1
      have hp := hp.grow hb1
      clear hh hb1
      go_wp2_with fail
      refine (rf32_Up A x c M _ hx h).mono ?_
      intro e w2 hh
      obtain ⟨A2, c2, rfl, hi2, hb2, n2⟩ := hh.getL
      have hb := below_then hb hb2
      have h := h.grow hb2
      have hp := hp.grow hb2
      have hi1 := hi1.grow hb2
      clear hh hb2
      go_wp2_with fail
      refine (mr_Down A x c M _ hx h).mono ?_
      intro e w3 hh
      obtain ⟨A3, c3, rfl, hi3, hb3, n3⟩ := hh.getL
      have hb := below_then hb hb3
      have h := h.grow hb3
      have hp := hp.grow hb3
      have hi1 := hi1.grow hb3
      have hi2 := hi2.grow hb3
      clear hh hb3
      go_wp2_with fail
      refine (rf32_Down A x c M _ hx h).mono ?_
      intro e w4 hh
      obtain ⟨A4, c4, rfl, hi4, hb4, n4⟩ := hh.getL
      have hb := below_then hb hb4
      have h := h.grow hb4
      have hp := hp.grow hb4
      have hi1 := hi1.grow hb4
      have hi2 := hi2.grow hb4
      have hi3 := hi3.grow hb4
      clear hh hb4
      go_wp2_with fail
      refine (mr_Expand A x c M _ hx h).mono ?_
      intro e w5 hh
      obtain ⟨A5, c5, rfl, hi5, hb5, n5⟩ := hh.getL
      have hb := below_then hb hb5
      have h := h.grow hb5
      have hp := hp.grow hb5
      have hi1 := hi1.grow hb5
      have hi2 := hi2.grow hb5
      have hi3 := hi3.grow hb5
      have hi4 := hi4.grow hb5
      clear hh hb5
      go_wp2_with fail
      refine (rf32_Expand A x c M _ hx h).mono ?_
      intro e w6 hh
      obtain ⟨A6, c6, rfl, hi6, hb6, n6⟩ := hh.getL
      have hb := below_then hb hb6
      have h := h.grow hb6
      have hp := hp.grow hb6
      have hi1 := hi1.grow hb6
      have hi2 := hi2.grow hb6
      have hi3 := hi3.grow hb6
      have hi4 := hi4.grow hb6
      have hi5 := hi5.grow hb6
      clear hh hb6
      go_wp2_with fail
      refine (mr_Phases A x c M _ hx h).mono ?_
      rintro e w7 ⟨A7, c7, rfl, hi7, hb7⟩
      have hb := below_then hb hb7
      have h := h.grow hb7
      have hp := hp.grow hb7
      have hi1 := hi1.grow hb7
      have hi2 := hi2.grow hb7
      have hi3 := hi3.grow hb7
      have hi4 := hi4.grow hb7
      have hi5 := hi5.grow hb7
      have hi6 := hi6.grow hb7
      clear hb7
      go_wp2_with fail
      refine (rf32_Phases A x c M _ hx h).mono ?_
      rintro e w8 ⟨A8, c8, rfl, hi8, hb8⟩
      have hb := below_then hb hb8
      have hp := hp.grow hb8
      have hi1 := hi1.grow hb8
      have hi2 := hi2.grow hb8
      have hi3 := hi3.grow hb8
      have hi4 := hi4.grow hb8
      have hi5 := hi5.grow hb8
      have hi6 := hi6.grow hb8
      have hi7 := hi7.grow hb8
      clear hb8 h
      go_wp2_with fail
      refine (mr_Merge D p d _ (by omega) HRL.out hp).mono ?_
      intro e w9 hh
      obtain ⟨A9, c9, rfl, hi9, hb9, n9⟩ := hh.getL
      have hb := below_then hb hb9
      have hp := hp.grow hb9
      have hi1 := hi1.grow hb9
      have hi2 := hi2.grow hb9
      have hi3 := hi3.grow hb9
      have hi4 := hi4.grow hb9
      have hi5 := hi5.grow hb9
      have hi6 := hi6.grow hb9
      have hi7 := hi7.grow hb9
      have hi8 := hi8.grow hb9
      clear hh hb9
      go_wp2_with fail
      refine (rf32_Merge D p d _ (by omega) HRL.out hp).mono ?_
      intro e wa hh
      obtain ⟨Aa, ca, rfl, hia, hba, na⟩ := hh.getL
      have hb := below_then hb hba
      have hi1 := hi1.grow hba
      have hi2 := hi2.grow hba
      have hi3 := hi3.grow hba
      have hi4 := hi4.grow hba
      have hi5 := hi5.grow hba
      have hi6 := hi6.grow hba
      have hi7 := hi7.grow hba
      have hi8 := hi8.grow hba
      have hi9 := hi9.grow hba
      clear hh hba hp
      have HPR : Hid (∀ l ∈ phV x M, l.length ≤ 400) := fun l hl => Nat.le_trans (phV_rows hl) hx4
      obtain ⟨q, hq⟩ : ∃ q, phV x M = q := ⟨_, rfl⟩
      rw [hq] at hi7 hi8 HPR ⊢
      have hql : q.length ≤ 100000 := by
        rw [← hq]
        unfold phV
        split
        · rename_i hE
          unfold downE at hE
          split at hE
          · rename_i hpp
            obtain ⟨l1, l2⟩ := inB_iff.1 hpp
            rw [phF, phN_length]; omega
          · omega
        · simp
      clear hq
      go_wp2
      all_goals try (exfalso; omega)
      go_loopw [28] (fun i wr => ∃ k : Nat, k ≤ q.length ∧ i = .int .i64 k ∧ Below wa.heap.size wa wr) (fun i _ => q.length - (intOf i).toNat)
      case atStart => exact ⟨0, Nat.zero_le _, rfl, Below.refl _ _⟩
      case round =>
        obtain ⟨k2, hk2, rfl, hbw⟩ := hrel
        by_cases hlt2 : k2 < q.length
        · have g7 := hi7.grow hbw
          have g8 := hi8.grow hbw
          obtain ⟨ad7, l, B7, cc7, rfl, hba7, hl7, hc7, hr7⟩ := g7.at_ hlt2
          obtain ⟨ad8, B8, cc8, rfl, hba8, hc8, hr8⟩ := g8 k2 l hl7
          have hlen : l.length ≤ 9223372036854775807 := by have := HPR.out l (List.mem_of_getElem? hl7); omega
          have f7 : ∀ n : Ext wr, n.to.cell? (ad7.add k2) = some (.slice B7 l.length cc7) := fun n => (n.cell _ (by rw [block_add]; exact hba7)).trans hc7
          have f8 : ∀ n : Ext wr, n.to.cell? (ad8.add k2) = some (.slice B8 l.length cc8) := fun n => (n.cell _ (by rw [block_add]; exact hba8)).trans hc8
          clear g7 g8 hi1 hi2 hi3 hi4 hi5 hi6 hi9 hia hi7 hi8 n1 n2 n3 n4 n5 n6 n9 na hl7 hc7 hc8
          go_wp2_with fail
          refine wp_region_ext (by kernel_rfl) (by kernel_rfl) ?_
          repeat (go_big_quiet_step (first | (go_at_call 13; exact ext_below (rf_Same _ _ l l _ _ _ hlen rfl (hr7.grow (Ext.below _)) (hr8.grow (Ext.below _))))))
          refine wpQuiet_nil ?_
          rintro _ ⟨⟨w1, hb1⟩, rfl⟩
          go_wp2
          go_roundw
          case rel => exact ⟨k2 + 1, by omega, by go_num, hbw.trans (hb1.mono hbw.size)⟩
          case measure => simp [intOf]; omega
        · have hb := below_then hb hbw
          have hi1 := hi1.grow hbw
          have hi2 := hi2.grow hbw
          have hi3 := hi3.grow hbw
          have hi4 := hi4.grow hbw
          have hi5 := hi5.grow hbw
          have hi6 := hi6.grow hbw
          have hi9 := hi9.grow hbw
          have hia := hia.grow hbw
          clear hi7 hi8
          go_wp2_with fail
          refine (known32 _).mono ?_
          rintro e x1 ⟨rfl, hb1⟩
          have hb := below_then hb hb1
          have hi1 := hi1.grow hb1
          have hi2 := hi2.grow hb1
          have hi3 := hi3.grow hb1
          have hi4 := hi4.grow hb1
          have hi5 := hi5.grow hb1
          have hi6 := hi6.grow hb1
          have hi9 := hi9.grow hb1
          have hia := hia.grow hb1
          clear hb1
          go_wp2_with fail
          refine (rf_Same A1 A2 _ _ c1 c2 _ n2 rfl hi1 hi2).mono ?_
          rintro e x2 ⟨rfl, hb1⟩
          have hb := below_then hb hb1
          have hi3 := hi3.grow hb1
          have hi4 := hi4.grow hb1
          have hi5 := hi5.grow hb1
          have hi6 := hi6.grow hb1
          have hi9 := hi9.grow hb1
          have hia := hia.grow hb1
          clear hb1
          go_wp2_with fail
          refine (rf_Same A3 A4 _ _ c3 c4 _ n4 rfl hi3 hi4).mono ?_
          rintro e x3 ⟨rfl, hb1⟩
          have hb := below_then hb hb1
          have hi5 := hi5.grow hb1
          have hi6 := hi6.grow hb1
          have hi9 := hi9.grow hb1
          have hia := hia.grow hb1
          clear hb1
          go_wp2_with fail
          refine (rf_Same A5 A6 _ _ c5 c6 _ n6 rfl hi5 hi6).mono ?_
          rintro e x4 ⟨rfl, hb1⟩
          have hb := below_then hb hb1
          have hi9 := hi9.grow hb1
          have hia := hia.grow hb1
          clear hb1
          go_wp2_with fail
          refine (rf_Same A9 Aa _ _ c9 ca _ na rfl hi9 hia).mono ?_
          rintro e x5 ⟨rfl, hb1⟩
          have hb := below_then hb hb1
          clear hb1
          go_wp2
          go_ret
          exact ⟨rfl, hb⟩
end Go.Proofs.Ythalkhpdcijlkaa
