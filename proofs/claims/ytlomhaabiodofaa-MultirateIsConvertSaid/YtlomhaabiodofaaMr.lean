/- The walks of Phases and Merge of package multirate. -/
import Derived.Test.YtlomhaabiodofaaMx
import Derived.Test.YtlomhaabiodofaaMq
import Derived.Test.YtlomhaabiodofaaQ
namespace Go.Proofs.Ytlomhaabiodofaa
open Go.RowKit

set_option maxHeartbeats 1000000 in
theorem mr_Phases (A : Option Addr) (x : List Int) (c : Nat) (M : Int) (w : World) (hx : x.length ≤ 9223372036854775807) (h : Ints w A x) :
    Calls Try.prog 29 #[.slice A x.length c, .int .i64 M] w (RetIntsL w (phV x M) (downE x.length M)) := by
  rcases Bool.eq_false_or_eq_true (inB M 1 12) with hp | hp
  · obtain ⟨l1, l2⟩ := inB_iff.1 hp
    obtain ⟨m, rfl⟩ := Int.eq_ofNat_of_zero_le (by omega : 0 ≤ M)
    by_cases hlong : 4096 < x.length
    · have hE : downE x.length m = 4 := by unfold downE; rw [hp, if_pos rfl, if_pos hlong]
      have hV : phV x m = [] := phV_no (by rw [hE]; decide)
      rw [hE, hV]
      clear hE hV
      go_enter Try.func29, Try.ntmps29
      go_wp2_with (go_at_call 24; refine (mr_permitted _ _).mono ?_; rintro e w' ⟨rfl, rfl⟩)
      go_ret2
      exact RetIntsL.mk rfl IntsL.nil (Below.refl _ _)
    · have hE : downE x.length m = 0 := by unfold downE; rw [hp, if_pos rfl, if_neg hlong]
      have hV : phV x m = phF x m := phV_of hE
      rw [hE, hV]
      clear hE hV
      have hn1 : m ≤ 100000000 := by omega
      go_enter Try.func29, Try.ntmps29
      go_wp2_with (first
        | (go_at_call 24; refine (mr_permitted _ _).mono ?_; rintro e w' ⟨rfl, rfl⟩)
        | (at_make; refine mk_intL rfl _ _ rfl m rfl rfl rfl hn1 ?_; intro w1 hown1 hb1))
      all_goals try (exfalso; omega)
      have hown0 : OwnL w.heap.size w1 w.heap.size m (phN x m 0) := by rw [phN_zero]; exact hown1
      clear hown1
      go_loopw [18] (fun i wr => ∃ k : Nat, k ≤ m ∧ i = .int .i64 k ∧ OwnL w.heap.size wr w.heap.size m (phN x m k) ∧ Below w.heap.size w wr) (fun i _ => m - (intOf i).toNat)
      case atStart => exact ⟨0, Nat.zero_le _, rfl, hown0, hb1⟩
      case round =>
        obtain ⟨k, hk, rfl, hown, hbw⟩ := hrel
        by_cases hlt : k < m
        · have hxw : Ints wr A x := h.grow hbw
          have HS := Lib.hid (phN_succ (x := x) hlt)
          have HA := Lib.hid (phN_at (x := x) hlt)
          have hm1 : 1 ≤ m := by omega
          have hgw := hown.block
          go_wp2_with (go_at_call 28; refine (mr_every A x c k m _ (by omega) hxw (by omega) hm1 (by omega)).mono ?_; rintro e w2 ⟨v, rfl, ho2, hb2⟩; obtain ⟨B2, c2, rfl, _, _⟩ := ho2.form; have hown2 := hown.grow hb2; obtain ⟨B, cc, hcell, _⟩ := hown2.cell HA.out; have hfree := hown2.free k)
          go_roundw
          case rel => exact ⟨k + 1, by omega, by go_num, by rw [HS.out]; exact hown2.set k (ho2.base (by omega)), (hbw.trans (hb2.mono (by omega))).setCell (Nat.le_refl _) _⟩
          case measure => simp [intOf]; omega
        · go_wp2
          go_ret2
          obtain rfl : k = m := by omega
          exact RetIntsL.mk (by rw [phF, phN_length]) hown.ints hbw
  · have hE : downE x.length M = 20 := by unfold downE; rw [hp, if_neg (by decide)]
    have hV : phV x M = [] := phV_no (by rw [hE]; decide)
    rw [hE, hV]
    clear hE hV
    go_enter Try.func29, Try.ntmps29
    go_wp2_with (go_at_call 24; refine (mr_permitted _ _).mono ?_; rintro e w' ⟨rfl, rfl⟩)
    go_ret2
    exact RetIntsL.mk rfl IntsL.nil (Below.refl _ _)
theorem rem_cast {k m : Nat} : ((k : Int)).tmod m = ((k % m : Nat) : Int) := (Int.ofNat_tmod k m).symm
theorem quo_cast {k m : Nat} : ((k : Int)).tdiv m = ((k / m : Nat) : Int) := (Int.ofNat_tdiv k m).symm
set_option maxRecDepth 100000 in
set_option maxHeartbeats 2000000 in
theorem mr_Merge (A : Option Addr) (p : List (List Int)) (c : Nat) (w : World) (hx : p.length ≤ 1000000) (hl : ∀ l ∈ p, l.length ≤ 1000000) (h : IntsL w A p) :
    Calls Try.prog 30 #[.slice A p.length c] w (RetInts w (mergeV p) (mergeE p)) := by
  rcases Bool.eq_false_or_eq_true (inB p.length 1 12) with hp | hp
  · obtain ⟨l1, l2⟩ := inB_iff.1 hp
    obtain ⟨m, hm⟩ : ∃ m, p.length = m := ⟨_, rfl⟩
    obtain ⟨T, hT⟩ : ∃ T, total p = T := ⟨_, rfl⟩
    have hT1 : T ≤ 12000000 := by
      have := total_le (p := p) hl
      have : p.length * 1000000 ≤ 12 * 1000000 := Nat.mul_le_mul_right _ (by omega)
      omega
    rw [hm] at hp l1 l2 ⊢
    have HM := Lib.hid hm
    have HT := Lib.hid hT
    have hb := Below.refl w.heap.size w
    go_enter Try.func30, Try.ntmps30
    go_wp2_with (go_at_call 24; refine (mr_permitted _ _).mono ?_; rintro e w' ⟨rfl, rfl⟩)
    go_loop [5, 19] (fun s i => ∃ k : Nat, k ≤ m ∧ i = .int .i64 k ∧ ∃ q : Nat, q = total (p.take k) ∧ q ≤ 12000000 ∧ s = .int .i64 q) (fun _ i => m - (intOf i).toNat)
    case atStart => exact ⟨0, Nat.zero_le _, rfl, 0, rfl, by omega, rfl⟩
    case round =>
      obtain ⟨k, hk, rfl, q, hq, hq1, rfl⟩ := hrel
      have HQ := Lib.hid hq
      by_cases hlt : k < m
      · obtain ⟨ad, l, B, cc, rfl, hba, hl1, hcell, hints⟩ := h.at_ (k := k) (by omega)
        have HS := Lib.hid (sum_take_succ hl1)
        have hle := total_take_le p (k + 1)
        have hll := hl l (List.mem_of_getElem? hl1)
        have hq2 : q + l.length ≤ 12000000 := by rw [HS.out, ← HQ.out, HT.out] at hle; omega
        clear hle hl1 hints hq h
        go_wp2
        go_round
        case rel => exact ⟨k + 1, by omega, by go_num, q + l.length, by rw [HS.out, HQ.out], hq2, by go_num⟩
        case measure => simp [intOf]; omega
      · obtain rfl : m = k := by omega
        obtain rfl : q = T := by rw [HQ.out, ← HT.out, List.take_of_length_le (by rw [HM.out]; exact Nat.le_refl _)]
        clear hq HQ
        by_cases hlong : 4096 < q
        · have HE : Hid (mergeE p = 4) := by show _ = _; unfold mergeE; rw [HM.out, hp, if_pos rfl, if_pos (by rw [HT.out]; exact hlong)]
          have HV : Hid (mergeV p = []) := by show _ = _; unfold mergeV; rw [if_neg (by rw [HE.out]; decide)]
          go_wp2
          go_ret2
          rw [HE.out, HV.out]
          exact RetInts.mk Own.nil hb
        · go_wp2
          go_loop [32] (fun i => ∃ k : Nat, k ≤ m ∧ i = .int .i64 k ∧ ∀ j, j < k → (p[j]?.getD []).length = cnt q j m) (fun i => m - (intOf i).toNat)
          case atStart => exact ⟨0, Nat.zero_le _, rfl, fun j hj => by omega⟩
          case round =>
            obtain ⟨k, hk, rfl, hall⟩ := hrel
            have HALL := Lib.hid hall
            clear hall
            by_cases hlt : k < m
            · obtain ⟨ad, l, B, cc, rfl, hba, hl1, hcell, hints⟩ := h.at_ (k := k) (by omega)
              have hll := hl l (List.mem_of_getElem? hl1)
              have hcl := cnt_le q k m (by omega)
              have hdiv : ((q : Int) - k + m - 1).tdiv m = ((cnt q k m : Nat) : Int) := by
                rcases Nat.lt_or_ge q k with hqk | hqk
                · have e1 : cnt q k m = 0 := by unfold cnt; exact Nat.div_eq_of_lt (by omega)
                  rw [e1, show (q : Int) - k + m - 1 = ((q + m - 1 - k : Nat) : Int) by omega, quo_cast, Nat.div_eq_of_lt (by omega)]
                · rw [show (q : Int) - k + m - 1 = ((q - k + m - 1 : Nat) : Int) by omega, quo_cast]; rfl
              have hdiv2 : ((q : Int) - k + m - 1) / m = ((cnt q k m : Nat) : Int) := by
                rw [← hdiv, Int.tdiv_eq_ediv_of_nonneg (by omega)]
              have HL := Lib.hid hl1
              obtain ⟨r, hr⟩ : ∃ r, cnt q k m = r := ⟨_, rfl⟩
              rw [hr] at hdiv hdiv2 hcl
              have HR := Lib.hid hr
              clear hl1 hints h hr
              by_cases heq : l.length = r
              · go_wp2
                all_goals try (exfalso; omega)
                go_round
                case rel => exact ⟨k + 1, by omega, by go_num, fun j hj => by
                  rcases Nat.lt_or_ge j k with h1 | h1
                  · exact HALL.out j h1
                  · obtain rfl : j = k := by omega
                    rw [HL.out, HR.out]; exact heq⟩
                case measure => simp [intOf]; omega
              · have HE : Hid (mergeE p = 1) := by
                  show _ = _
                  unfold mergeE
                  rw [HM.out, hp, if_pos rfl, if_neg (by rw [HT.out]; exact hlong), if_neg]
                  intro hh
                  have := hh k hlt
                  rw [HL.out, HT.out, HR.out] at this
                  exact heq this
                have HV : Hid (mergeV p = []) := by show _ = _; unfold mergeV; rw [if_neg (by rw [HE.out]; decide)]
                go_wp2
                all_goals try (exfalso; omega)
                go_ret2
                rw [HE.out, HV.out]
                exact RetInts.mk Own.nil hb
            · obtain rfl : m = k := by omega
              have HE : Hid (mergeE p = 0) := by
                show _ = _
                unfold mergeE
                rw [HM.out, hp, if_pos rfl, if_neg (by rw [HT.out]; exact hlong), if_pos]
                intro j hj
                rw [HT.out]
                exact HALL.out j hj
              have HV : Hid (mergeV p = mergeF p) := by show _ = _; unfold mergeV; rw [if_pos HE.out]
              have hn1 : q ≤ 100000000 := by omega
              go_wp2_with (at_make; refine mk_int rfl _ _ rfl w.heap.size q rfl rfl rfl hn1 (Nat.le_refl _) ?_; intro w1 hown1 hb1)
              have hown0 : Own w.heap.size w1 (.slice (some ⟨w.heap.size, 0, none⟩) q q) (mergeN p 0) := by rw [mergeN_zero, HT.out]; exact hown1
              clear hown1
              go_loopw [53] (fun i wr => ∃ t : Nat, t ≤ q ∧ i = .int .i64 t ∧ Own w.heap.size wr (.slice (some ⟨w.heap.size, 0, none⟩) q q) (mergeN p t) ∧ Below w.heap.size w wr) (fun i _ => q - (intOf i).toNat)
              case atStart => exact ⟨0, Nat.zero_le _, rfl, hown0, hb1⟩
              case round =>
                obtain ⟨t, ht, rfl, hown, hbw⟩ := hrel
                by_cases htq : t < q
                · have hpw := h.grow hbw
                  have e1 := rem_cast (k := t) (m := m)
                  have e2 := quo_cast (k := t) (m := m)
                  have b1 : t % m < m := Nat.mod_lt _ (by omega)
                  have b2 : t / m ≤ t := Nat.div_le_self _ _
                  obtain ⟨ad, l, B, cc, rfl, hba, hl1, hcell, hints⟩ := hpw.at_ (k := t % m) (by omega)
                  have hlen : t / m < l.length := by
                    have := HALL.out (t % m) b1
                    rw [hl1] at this
                    simp only [Option.getD_some] at this
                    rw [this, ← cnt_iff (by omega)]
                    have := Nat.mod_add_div t m
                    rw [Nat.mul_comm] at this
                    omega
                  obtain ⟨ad2, y, rfl, hb2, hy, hc2, i1, i2⟩ := hints.at_ hlen
                  have HS := Lib.hid (mergeN_succ (p := p) (k := t) (l := l) (y := y) (by rw [HT.out]; exact htq) (by rw [HM.out]; exact hl1) (by rw [HM.out]; exact hy))
                  obtain ⟨a, ha⟩ : ∃ a, t % m = a := ⟨_, rfl⟩
                  obtain ⟨b, hbb⟩ : ∃ b, t / m = b := ⟨_, rfl⟩
                  rw [ha] at e1 b1 hcell hl1
                  rw [hbb] at e2 b2 hlen hc2
                  have hln := mergeN_length p t
                  obtain ⟨z, hz⟩ : ∃ z, (mergeN p t)[t]? = some z := ⟨_, List.getElem?_eq_getElem (by rw [hln, HT.out]; exact htq)⟩
                  have cz := hown.cell hz
                  have cf := hown.free t
                  have HSET := Lib.hid (hown.set t (y := y) ⟨i1, i2⟩)
                  have hll := hl l (List.mem_of_getElem? hl1)
                  clear hown hz hln hy hl1 hints hpw h ha hbb hl hown0
                  go_wp2
                  go_region
                  go_wp2
                  go_roundw
                  case rel => exact ⟨t + 1, by omega, by go_num, by rw [HS.out]; exact HSET.out, (hbw.setCell (p := ⟨w.heap.size, t, none⟩) (Nat.le_refl _) _).drew⟩
                  case measure => simp [intOf]; omega
                · go_wp2
                  go_ret2
                  obtain rfl : t = q := by omega
                  rw [HE.out, HV.out]
                  exact RetInts.mk (by unfold mergeF; rw [HT.out]; exact hown) hbw
  · have hE : mergeE p = 20 := by unfold mergeE; rw [if_neg (by rw [hp]; decide)]
    have hV : mergeV p = [] := by unfold mergeV; rw [if_neg (by rw [hE]; decide)]
    rw [hE, hV]
    clear hE hV
    go_enter Try.func30, Try.ntmps30
    go_wp2_with (go_at_call 24; refine (mr_permitted _ _).mono ?_; rintro e w' ⟨rfl, rfl⟩)
    go_ret2
    exact RetInts.mk Own.nil (Below.refl _ _)
end Go.Proofs.Ytlomhaabiodofaa
