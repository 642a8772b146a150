/- The walk of the reference's Merge. -/
import Derived.Test.YthalkhpdcijlkaaMr
import Derived.Test.YthalkhpdcijlkaaMu
import Derived.Deep.RegionHeld3
namespace Go.Proofs.Ythalkhpdcijlkaa
open Go.RowKit

set_option maxRecDepth 100000 in
set_option maxHeartbeats 2000000 in
theorem rf32_Merge (A : Option Addr) (p : List (List Int)) (c : Nat) (w : World) (hx : p.length ≤ 1000000) (hl : ∀ l ∈ p, l.length ≤ 1000000) (h : IntsL w A p) :
    Calls Try.prog 21 #[.slice A p.length c] w (RetInts w (mergeV p) (mergeE p)) := by
  rcases Bool.eq_false_or_eq_true (inB p.length 1 12) with hp | hp
  · obtain ⟨l1, l2⟩ := inB_iff.1 hp
    obtain ⟨m, hm⟩ : ∃ m, p.length = m := ⟨_, rfl⟩
    obtain ⟨T, hT⟩ : ∃ T, total p = T := ⟨_, rfl⟩
    have hT1 : T ≤ 12000000 := by
      have := total_le (p := p) hl
      have : p.length * 1000000 ≤ 12 * 1000000 := Nat.mul_le_mul_right _ (by omega)
      omega
    rw [hm] at hp l1 l2 ⊢
    have HM := Lib.hid hm
    have HT := Lib.hid hT
    have hb := Below.refl w.heap.size w
    have hbig : 4096 < T → mergeE p = 4 ∧ mergeV p = [] := fun hlong => by
      have hE : mergeE p = 4 := by unfold mergeE; rw [hm, hp, if_pos rfl, if_pos (by rw [hT]; exact hlong)]
      exact ⟨hE, by unfold mergeV; rw [if_neg (by rw [hE]; decide)]⟩
    have HBIG := Lib.hid hbig
    clear hbig
    go_enter Try.func21, Try.ntmps21
    go_wp2_with (go_at_call 26; refine (rf_factor _ _).mono ?_; rintro e w' ⟨rfl, rfl⟩)
    go_loop [4, 5] (fun s i => ∃ k : Nat, k ≤ m ∧ i = .int .i64 k ∧ ∃ q : Nat, q = total (p.take k) ∧ q ≤ 12000000 ∧ s = .int .i64 q) (fun _ i => m - (intOf i).toNat)
    case atStart => exact ⟨0, Nat.zero_le _, rfl, 0, rfl, by omega, rfl⟩
    case round =>
      obtain ⟨k, hk, rfl, q, hq, hq1, rfl⟩ := hrel
      have HQ := Lib.hid hq
      by_cases hlt : k < m
      · obtain ⟨ad, l, B, cc, rfl, hba, hl1, hcell, hints⟩ := h.at_ (k := k) (by omega)
        have HS := Lib.hid (sum_take_succ hl1)
        have hle := total_take_le p (k + 1)
        have hll := hl l (List.mem_of_getElem? hl1)
        have hq2 : q + l.length ≤ 12000000 := by rw [HS.out, ← HQ.out, HT.out] at hle; omega
        by_cases h4 : 4096 < l.length
        · have hlong : 4096 < T := by have := total_ge (List.mem_of_getElem? hl1); rw [HT.out] at this; omega
          clear hle hl1 hints hq h
          go_wp2
          all_goals try (exfalso; omega)
          go_ret2
          rw [(HBIG.out hlong).1, (HBIG.out hlong).2]
          exact RetInts.mk Own.nil hb
        · clear hle hl1 hints hq h
          go_wp2
          all_goals try (exfalso; omega)
          go_round
          case rel => exact ⟨k + 1, by omega, by go_num, q + l.length, by rw [HS.out, HQ.out], hq2, by go_num⟩
          case measure => simp [intOf]; omega
      · obtain rfl : m = k := by omega
        obtain rfl : q = T := by rw [HQ.out, ← HT.out, List.take_of_length_le (by rw [HM.out]; exact Nat.le_refl _)]
        clear hq HQ
        by_cases hlong : 4096 < q
        · go_wp2
          all_goals try (exfalso; omega)
          go_ret2
          rw [(HBIG.out hlong).1, (HBIG.out hlong).2]
          exact RetInts.mk Own.nil hb
        · go_wp2
          all_goals try (exfalso; omega)
          go_loopw [6, 7] (fun v i wr => ∃ t : Nat, t ≤ q ∧ i = .int .i64 t ∧ Own w.heap.size wr v (mgN p t) ∧ Below w.heap.size w wr ∧ Hid (∀ i, i < t → i / m < (p[i % m]?.getD []).length)) (fun _ i _ => q - (intOf i).toNat)
          case atStart => exact ⟨0, Nat.zero_le _, rfl, Own.nil, Below.refl _ _, fun i hi => by omega⟩
          case round =>
            obtain ⟨t, ht, rfl, hown, hbw, HALL⟩ := hrel
            by_cases htq : t < q
            · have e1 := rem_cast (k := t) (m := m)
              have e2 := quo_cast (k := t) (m := m)
              have b1 : t % m < m := Nat.mod_lt _ (by omega)
              have b2 : t / m ≤ t := Nat.div_le_self _ _
              obtain ⟨ad, l, B, cc, rfl, hba, hl1, hcell, hints⟩ := h.at_ (k := t % m) (by omega)
              have hcell := (hbw.cell (by rw [block_add]; exact hba)).trans hcell
              have HL := Lib.hid hl1
              have hll := hl l (List.mem_of_getElem? hl1)
              by_cases hlen : t / m < l.length
              · obtain ⟨ad2, y, rfl, hb2, hy, hc2, i1, i2⟩ := hints.at_ hlen
                have hc2 := (hbw.cell (by rw [block_add]; exact hb2)).trans hc2
                have HS := Lib.hid (mgN_succ (p := p) (t := t) (l := l) (y := y) (by rw [HM.out]; exact hl1) (by rw [HM.out]; exact hy))
                have HALL2 : Hid (∀ i, i < t + 1 → i / m < (p[i % m]?.getD []).length) := fun i hi => by
                  rcases Nat.lt_or_ge i t with h1 | h1
                  · exact HALL.out i h1
                  · obtain rfl : i = t := by omega
                    rw [HL.out]; exact hlen
                obtain ⟨a, ha⟩ : ∃ a, t % m = a := ⟨_, rfl⟩
                obtain ⟨b, hbb⟩ : ∃ b, t / m = b := ⟨_, rfl⟩
                rw [ha] at e1 b1 hcell
                rw [hbb] at e2 b2 hlen hc2
                have HA := Lib.hid ha
                have HBB := Lib.hid hbb
                have hI : I64 y := ⟨i1, i2⟩
                have hlen' : (mgN p t).length < 100000000 := by rw [mgN_length]; omega
                have hsz := hbw.size
                clear hl1 hy hints h ha hbb hl
                go_wp2
                go_region
                all_goals try (exfalso; omega)
                go_wp2_with fail
                have hbw2 := hbw.drew.drew
                have hown2 : Own w.heap.size wr.drew.drew _ _ := hown
                have hsz2 : w.heap.size ≤ wr.drew.drew.heap.size := hsz
                have j1 : (ad.add a).block < w.heap.size := by rw [block_add]; exact hba
                have j2 : (ad2.add b).block < w.heap.size := by rw [block_add]; exact hb2
                have k1 := Nat.lt_of_lt_of_le j1 hsz2
                have k2 := Nat.lt_of_lt_of_le j2 hsz2
                have c1 : wr.drew.drew.cell? (ad.add a) = some (.slice (some ad2) l.length cc) := hcell
                have c2 : wr.drew.drew.cell? (ad2.add b) = some (.int .i64 y) := hc2
                have m0 : m ≠ 0 := by omega
                have m1 : (m : Int) ≠ 0 := by omega
                have f1 : (t : Int) % m = (a : Int) := by rw [← HA.out]; rfl
                have f2 : (t : Int) / m = (b : Int) := by rw [← HBB.out]; rfl
                have f3 : t % m = a := HA.out
                have f4 : t / m = b := HBB.out
                have ww1 : IntKind.i64.wrap (a : Int) = a := IntWalk.i64_in _ (by omega)
                have ww2 : IntKind.i64.wrap (b : Int) = b := IntWalk.i64_in _ (by omega)
                have ww3 : IntKind.i64.wrap ((t : Int).tmod m) = a := by rw [e1]; exact ww1
                have ww4 : IntKind.i64.wrap ((t : Int).tdiv m) = b := by rw [e2]; exact ww2
                have x1 : (0 : Int) ≤ (a : Int) := by omega
                have x2 : (0 : Int) ≤ (b : Int) := by omega
                have x3 : (a : Int) < (m : Int) := by omega
                have x4 : (b : Int) < (l.length : Int) := by omega
                clear hown hbw hsz hcell hc2
                go_region_held3 (fun w' => (w'.cell? (ad.add a) = some (.slice (some ad2) l.length cc) ∧ w'.cell? (ad2.add b) = some (.int .i64 y)))
                  (first | exact ⟨c1, c2⟩ | exact ⟨(World.cell?_alloc_lt _ _ _ k1).trans c1, (World.cell?_alloc_lt _ _ _ k2).trans c2⟩ | exact ⟨(hbel1.cell j1).trans c1, (hbel1.cell j2).trans c2⟩)
                  (first
                    | ((with_reducible refine step_app_int _ rfl (.tmp 51) (.tmp 65) rfl w.heap.size hown2 ?_ ?_ ?_ hlen' hsz2 hI ?_); (exact rfl); (exact rfl); (exact rfl); intro v1 w1 hown3 hbel1; have hbw3 := hbw2.trans hbel1))
                clear f1 f2 f3 f4 ww1 ww2 ww3 ww4
                go_wp2
                go_roundw
                case rel => exact ⟨t + 1, by omega, by go_num, by rw [HS.out]; exact hown3, hbw3, HALL2⟩
                case measure => simp [intOf]; omega
              · have HE : Hid (mergeE p = 1) := by
                  show _ = _
                  unfold mergeE
                  rw [HM.out, hp, if_pos rfl, if_neg (by rw [HT.out]; exact hlong), if_neg]
                  intro hh
                  have := fits_back (p := p) (by rw [HM.out]; omega) (by rw [HM.out]; exact hh) (i := t) (by rw [HT.out]; exact htq)
                  rw [HM.out, HL.out] at this
                  exact hlen this
                have HV : Hid (mergeV p = []) := by show _ = _; unfold mergeV; rw [if_neg (by rw [HE.out]; decide)]
                obtain ⟨a, ha⟩ : ∃ a, t % m = a := ⟨_, rfl⟩
                obtain ⟨b, hbb⟩ : ∃ b, t / m = b := ⟨_, rfl⟩
                rw [ha] at e1 b1 hcell
                rw [hbb] at e2 b2 hlen
                clear hl1 hints h ha hbb hl
                go_wp2
                go_region
                all_goals try (exfalso; omega)
                go_wp2
                go_ret2
                rw [HE.out, HV.out]
                exact RetInts.mk Own.nil hbw.drew
            · obtain rfl : t = q := by omega
              have HE : Hid (mergeE p = 0) := by
                show _ = _
                unfold mergeE
                rw [HM.out, hp, if_pos rfl, if_neg (by rw [HT.out]; exact hlong), if_pos]
                have := fits_all (p := p) (by rw [HM.out]; omega) (by rw [HM.out, HT.out]; exact HALL.out)
                rw [HM.out] at this
                exact this
              have HV : Hid (mergeV p = mgN p t) := by show _ = _; unfold mergeV; rw [if_pos HE.out, ← mgN_all, HT.out]
              go_wp2
              all_goals try (exfalso; omega)
              go_ret2
              rw [HE.out, HV.out]
              exact RetInts.mk hown hbw
  · have hE : mergeE p = 20 := by unfold mergeE; rw [if_neg (by rw [hp]; decide)]
    have hV : mergeV p = [] := by unfold mergeV; rw [if_neg (by rw [hE]; decide)]
    rw [hE, hV]
    clear hE hV
    go_enter Try.func21, Try.ntmps21
    go_wp2_with (go_at_call 26; refine (rf_factor _ _).mono ?_; rintro e w' ⟨rfl, rfl⟩)
    go_ret2
    exact RetInts.mk Own.nil (Below.refl _ _)
end Go.Proofs.Ythalkhpdcijlkaa
