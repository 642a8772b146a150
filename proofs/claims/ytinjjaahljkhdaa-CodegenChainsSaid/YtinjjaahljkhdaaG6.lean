/- The walk of Chains of the reference. -/
import Derived.Test.YtinjjaahljkhdaaG5
namespace Go.Proofs.Ytinjjaahljkhdaa
open Go.RowKit

theorem pre_len2 {nx : List Int} {s j x : Nat} (h : itF nx s j = some x) : (preF nx s j).length = j := by
  cases j with
  | zero => rfl
  | succ j =>
    obtain ⟨y, h1, _⟩ := it_down h
    exact pre_length h1
set_option maxRecDepth 100000 in
set_option maxHeartbeats 4000000 in
theorem r41_Chains (d0 d1 d2 d3 c0 c1 c2 c3 st out : Int) (NA XA : Option Addr) (nn nc xn xc : Nat) (nx : List Int) (b : Bool) (w : World)
    (hv : ∀ w', Below w.heap.size w w' → Calls Try.prog 23 #[netV d0 d1 d2 d3 c0 c1 c2 c3 st NA nn nc XA xn xc out] w' (BoolBw w' b)) (hX : Ints w XA nx) (hb : b = true → st = (xn : Int) ∧ (nx.length = xn ∧ ∀ v ∈ nx, 0 ≤ v ∧ v ≤ 1000000) ∧ xn ≤ 64) :
    Calls Try.prog 12 #[netV d0 d1 d2 d3 c0 c1 c2 c3 st NA nn nc XA xn xc out] w (RetIntsL w (if b then lnF nx xn else []) (if b then 0 else 2)) := by
  have hal := fun o => Below.alloc (Below.refl w.heap.size w) (Nat.le_refl _) o
  have HAL := Lib.hid hal
  have HV := Lib.hid (fun o => hv _ (hal o))
  have HX := Lib.hid hX
  clear hal hv hX
  unfold netV at HV ⊢
  cases b with
  | false =>
    clear hb
    go_enter Try.func12, Try.ntmps12
    go_wp2_with (go_at_call 23; refine (HV.out _).mono ?_; rintro e w1 ⟨rfl, hb1⟩)
    go_ret2
    exact ⟨none, 0, rfl, IntsL.nil, (HAL.out _).trans (hb1.mono (HAL.out _).size)⟩
  | true =>
    obtain ⟨rfl, ⟨hxl, hxv⟩, hx6⟩ := hb rfl
    have HXV := Lib.hid hxv
    clear hxv
    have HXL := Lib.hid hxl
    clear hb hxl
    go_enter Try.func12, Try.ntmps12
    go_wp2_with fail
    have hc : ∀ o, (o = Obj.cells #[.int .i64 d0, .int .i64 d1, .int .i64 d2, .int .i64 d3, .int .i64 c0, .int .i64 c1, .int .i64 c2, .int .i64 c3, .int .i64 (xn : Int), .slice NA nn nc, .slice XA xn xc, .int .i64 out] 27) →
        (w.alloc o).cell? ⟨w.heap.size, 8, none⟩ = some (.int .i64 (xn : Int)) ∧ (w.alloc o).cell? ⟨w.heap.size, 10, none⟩ = some (.slice XA xn xc) ∧ w.heap.size < (w.alloc o).heap.size := fun o e => by subst e; exact ⟨by simp [go_sem], by simp [go_sem], by simp⟩
    obtain ⟨q8, q10, qlt⟩ := hc _ rfl
    have HQ8 := Lib.hid q8
    have HQ10 := Lib.hid q10
    have HQL := Lib.hid qlt
    refine (HV.out _).mono ?_
    rintro e w1 ⟨rfl, hb1⟩
    have e8 := (hb1.cell HQL.out).trans HQ8.out
    have e10 := (hb1.cell HQL.out).trans HQ10.out
    have hqw : w.heap.size < w1.heap.size := Nat.lt_of_lt_of_le HQL.out hb1.size
    have HB1 := Lib.hid ((HAL.out _).trans (hb1.mono (HAL.out _).size))
    have E8 := Lib.hid e8
    have E10 := Lib.hid e10
    have hx8 : xn ≤ 100000000 := by omega
    clear hb1 hc q8 q10 qlt HV
    go_wp2_with (first
      | (at_make; refine mk_int rfl _ _ rfl w1.heap.size xn rfl rfl rfl hx8 (Nat.le_refl _) ?_; intro w2 ho1 hb2; have e8 := (hb2.cell hqw).trans E8.out)
      | (at_make; refine mk_bool rfl _ _ rfl w1.heap.size xn rfl rfl rfl hx8 hb2.size ?_; intro w3 ho2 hb3))
    have hg12 : w1.heap.size < w2.heap.size := ho1.block.2
    have ho1 := ho1.grow hb3
    have hbw := hb2.trans (hb3.mono hb2.size)
    have hga : Own w1.heap.size w3 (.slice (some ⟨w1.heap.size, 0, none⟩) xn xn) (mnN xn 0) := by rw [mnN_zero]; exact ho1
    have hgb : OwnT w1.heap.size w3 w2.heap.size xn (ldN nx xn 0) := by rw [ldN_zero]; exact ho2
    have hne : w1.heap.size ≠ w2.heap.size := by omega
    have hne2 : w2.heap.size ≠ w1.heap.size := by omega
    have hge : w1.heap.size ≤ w2.heap.size := by omega
    have HX1 := Lib.hid (HX.out.grow HB1.out)
    clear ho1 ho2 hb2 hb3 e8 e10 hg12
    go_wp2_with fail
    go_loopw [6] (fun i wr => ∃ k : Nat, k ≤ xn ∧ i = .int .i64 k ∧ Own w1.heap.size wr (.slice (some ⟨w1.heap.size, 0, none⟩) xn xn) (mnN xn k) ∧ OwnT w1.heap.size wr w2.heap.size xn (ldN nx xn 0) ∧ Below w1.heap.size w1 wr) (fun i _ => xn - (intOf i).toNat)
    case atStart => exact ⟨0, Nat.zero_le _, rfl, hga, hgb, hbw⟩
    case round =>
      obtain ⟨k, hk, rfl, ha, hb, hbr⟩ := hrel
      have e8 := (hbr.cell hqw).trans E8.out
      by_cases hlt : k < xn
      · have HS := Lib.hid (mnN_succ hlt)
        have ct := ha.cell (mnN_get (k := k) hlt)
        have cf := ha.free k
        have x1 : (0 : Int) ≤ (k : Int) := by omega
        have x2 : (k : Int) < (xn : Int) := by omega
        have HBR := Lib.hid hbr
        clear hbr
        go_wp2
        go_roundw
        case rel => exact ⟨k + 1, by omega, by go_num, by rw [HS.out]; exact ha.set k ⟨by decide, by decide⟩, hb.other hne, HBR.out.setCell (p := ⟨w1.heap.size, k, none⟩) (Nat.le_refl _) _⟩
        case measure => simp [intOf]; omega
      · obtain rfl : k = xn := by omega
        have ha2 : Own w1.heap.size wr (.slice (some ⟨w1.heap.size, 0, none⟩) k k) (bhN nx k k) := by rw [bhN_end (by have := HXL.out; omega), ← mnN_end]; exact ha
        have HA0 := Lib.hid ha2
        have HB0 := Lib.hid hb
        have HBR := Lib.hid hbr
        have x1 : IntKind.i64.wrap ((k : Int) - 1) = (k : Int) - 1 := IntWalk.i64_in _ (by omega)
        clear ha ha2 hb hbr hga hgb hbw hk
        go_wp2_with fail
        clear x1 e8
        go_loopw [7, 8] (fun i _ wr => ∃ (j : Nat) (z : Int), j ≤ k ∧ i = .int .i64 z ∧ z = (j : Int) - 1 ∧ Own w1.heap.size wr (.slice (some ⟨w1.heap.size, 0, none⟩) k k) (bhN nx k j) ∧ OwnT w1.heap.size wr w2.heap.size k (ldN nx k 0) ∧ Below w1.heap.size w1 wr) (fun i _ _ => (intOf i + 1).toNat)
        case atStart => exact ⟨k, (k : Int) - 1, Nat.le_refl _, rfl, rfl, HA0.out, HB0.out, HBR.out⟩
        case round =>
          obtain ⟨j, z, hj, rfl, hz, ha, hb, hbr⟩ := hrel
          have e8 := (hbr.cell hqw).trans E8.out
          have e10 := (hbr.cell hqw).trans E10.out
          cases j with
          | succ J =>
            obtain rfl : z = (J : Int) := by omega
            obtain ⟨ad, v, hAd, hba, hv, cv, v1, v2⟩ := (HX1.out.grow hbr).at_ (k := J) (by have := HXL.out; omega)
            subst hAd
            have x1 : (0 : Int) ≤ (J : Int) := by omega
            have x2 : (J : Int) < (k : Int) := by omega
            have x3 : IntKind.i64.wrap ((J : Int) - 1) = (J : Int) - 1 := IntWalk.i64_in _ (by omega)
            have x4 : IntKind.i64.wrap ((k : Int) - 1) = (k : Int) - 1 := IntWalk.i64_in _ (by omega)
            obtain ⟨v3, v4⟩ := HXV.out v (List.mem_of_getElem? hv)
            have x5 : IntKind.i64.wrap (v - 1) = v - 1 := IntWalk.i64_in _ (by omega)
            have HBR2 := Lib.hid hbr
            rcases Bool.eq_false_or_eq_true (inB (v - 1) 0 ((k : Int) - 1)) with hin | hin
            · obtain ⟨y1, y2⟩ := inB_iff.1 hin
              obtain ⟨c, hc⟩ := Int.eq_ofNat_of_zero_le y1
              have hck : c < k := by omega
              have HS := Lib.hid (bhN_in (S := k) hv hc hck)
              have HIN := Lib.hid hin
              have ct := ha.cell (bhN_get (nx := nx) (j := J + 1) hck)
              have cf := ha.free c
              rw [hc] at x5 HIN
              have x6 : (0 : Int) ≤ (c : Int) := by omega
              have x7 : (c : Int) < (k : Int) := by omega
              clear hin hv y1 y2 hz hbr
              go_wp2_with (go_at_call 24; refine (rf_In _ _ _ _).mono ?_; rintro e w4 ⟨rfl, rfl⟩; rw [HIN.out])
              go_roundw
              case rel => exact ⟨J, (J : Int) - 1, by omega, by go_num, rfl, by rw [HS.out]; exact ha.set c ⟨by omega, by omega⟩, hb.other hne, HBR2.out.setCell (p := ⟨w1.heap.size, c, none⟩) (Nat.le_refl _) _⟩
              case measure => simp [intOf]
            · have HS := Lib.hid (bhN_out (S := k) hv (by have := inB_no.1 hin; omega))
              have HIN := Lib.hid hin
              clear hin hv hz hbr
              go_wp2_with (go_at_call 24; refine (rf_In _ _ _ _).mono ?_; rintro e w4 ⟨rfl, rfl⟩; rw [HIN.out])
              go_roundw
              case rel => exact ⟨J, (J : Int) - 1, by omega, by go_num, rfl, by rw [HS.out]; exact ha, hb, HBR2.out⟩
              case measure => simp [intOf]
          | zero =>
            obtain rfl : z = -1 := by simpa using hz
            rw [bhN_zero] at ha
            have HA1 := Lib.hid ha
            have HB1' := Lib.hid hb
            have HBR2 := Lib.hid hbr
            clear ha hb hbr hz e10
            go_wp2_with fail
            clear e8
            go_loopw [9] (fun i wr => ∃ q : Nat, q ≤ k ∧ i = .int .i64 q ∧ Own w1.heap.size wr (.slice (some ⟨w1.heap.size, 0, none⟩) k k) (foN nx k k) ∧ OwnT w1.heap.size wr w2.heap.size k (ldN nx k q) ∧ Below w1.heap.size w1 wr) (fun i _ => k - (intOf i).toNat)
            case atStart => exact ⟨0, Nat.zero_le _, rfl, HA1.out, HB1'.out, HBR2.out⟩
            case round =>
              obtain ⟨q, hq, rfl, ha, hb, hbr⟩ := hrel
              have e8 := (hbr.cell hqw).trans E8.out
              by_cases hlt : q < k
              · have hfo := foN_get (nx := nx) (S := k) (k := k) hlt
                rw [if_pos hlt] at hfo
                have ca := ha.cell hfo
                have HBR3 := Lib.hid hbr
                have x1 : (0 : Int) ≤ (q : Int) := by omega
                have x2 : (q : Int) < (k : Int) := by omega
                rcases hf : foll nx q with _ | b
                · have HN := Lib.hid (ldN_none (S := k) hf)
                  rw [follI_none hf] at ca
                  clear hf hfo hbr
                  go_wp2
                  go_roundw
                  case rel => exact ⟨q + 1, by omega, by go_num, ha, by rw [HN.out]; exact hb, HBR3.out⟩
                  case measure => simp [intOf]; omega
                · have hbx : b < k := by have := foll_lt hf; have := HXL.out; omega
                  have HN := Lib.hid (ldN_some hbx hf)
                  have cb := hb.cell (ldN_get (nx := nx) (k := q) hbx)
                  have cbf := hb.free b
                  have x4 : (0 : Int) ≤ (b : Int) := by omega
                  have x5 : (b : Int) < (k : Int) := by omega
                  rw [follI_some hf] at ca
                  clear hf hfo hbr
                  go_wp2
                  go_roundw
                  case rel => exact ⟨q + 1, by omega, by go_num, ha.other hne, by rw [HN.out]; exact hb.set b true, HBR3.out.setCell (p := ⟨w2.heap.size, b, none⟩) hge _⟩
                  case measure => simp [intOf]; omega
              · obtain rfl : q = k := by omega
                have HA := Lib.hid ha
                have HB := Lib.hid hb
                have HBR3 := Lib.hid hbr
                have hga1 := ha.block.2
                have hgb1 := hb.block.2
                have hqo : w.heap.size < wr.heap.size := Nat.lt_of_lt_of_le hqw hbr.size
                have E8o := Lib.hid e8
                clear ha hb hbr hq
                go_wp2_with fail
                clear e8
                obtain ⟨wo, rfl⟩ : ∃ wo : World, wo = wr := ⟨_, rfl⟩
                go_loopw [10, 11, 12, 13] (fun r i _ _ wr => ∃ p : Nat, p ≤ q ∧ i = .int .i64 p ∧ OwnB wo.heap.size wr r (lnF nx p) ∧ Below wo.heap.size wo wr) (fun _ i _ _ _ => q - (intOf i).toNat)
                case atStart => exact ⟨0, Nat.zero_le _, rfl, OwnB.nil, Below.refl _ _⟩
                case round =>
                  obtain ⟨p, hp, rfl, hown, hbq⟩ := hrel
                  have e8 := (hbq.cell hqo).trans E8o.out
                  by_cases hltq : p < q
                  · have cb := (hbq.cell hgb1).trans (HB.out.cell (ldN_get (nx := nx) (k := q) hltq))
                    have HBQ := Lib.hid hbq
                    have HOW := Lib.hid hown
                    have x1 : (0 : Int) ≤ (p : Int) := by omega
                    have x2 : (p : Int) < (q : Int) := by omega
                    rcases hled : ledB nx q p with _ | _
                    · have hled2 : ledB nx nx.length p = false := by rw [HXL.out]; exact hled
                      have HLN := Lib.hid (lnF_new hled2)
                      have hnl : ¬ ledP nx p := fun h => by rw [ledB_iff.2 h] at hled2; cases hled2
                      have hqn : p < nx.length := by rw [HXL.out]; exact hltq
                      have HNL := Lib.hid hnl
                      have HQN := Lib.hid hqn
                      have hsq := hbq.size
                      rw [hled] at cb
                      clear hled hled2 hnl hqn hown hbq
                      go_wp2_with fail
                      clear cb e8
                      obtain ⟨wi, rfl⟩ : ∃ wi : World, wi = wr := ⟨_, rfl⟩
                      go_loopw [12, 13] (fun c z wr => ∃ j : Nat, z = .int .i64 (itI nx p j) ∧ j ≤ nx.length ∧ (preF nx p j).length = j ∧ Own wi.heap.size wr c (preF nx p j) ∧ Below wi.heap.size wi wr) (fun c _ _ => q + 1 - lenV c)
                      case atStart => exact ⟨0, rfl, Nat.zero_le _, rfl, Own.nil, Below.refl _ _⟩
                      case round =>
                        obtain ⟨j, rfl, hjn, hpl, hc, hbi⟩ := hrel
                        rcases hn : itF nx p j with _ | y
                        · have HI := Lib.hid (itI_none hn)
                          rw [HI.out]
                          have HLI := Lib.hid (pre_line hn hjn)
                          have HBI := Lib.hid hbi
                          obtain ⟨A5, c5, rfl, _, i5⟩ := hc.form
                          have F5 := Lib.hid hc.away
                          have HVQ := Lib.hid (fun b hb => (HOW.out.lt b hb).2)
                          have hll := lnF_length nx p
                          have HLL : Hid ((lnF nx p).length ≤ 1000) := by show _ ≤ _; omega
                          rw [hpl]
                          have HPL := Lib.hid hpl
                          have hsi := hbi.size
                          clear hn hc hbi hll hpl hjn
                          go_wp2_with (at_builtin; refine app_band wr rfl _ _ rfl wo.heap.size (HOW.out.grow HBI.out) rfl rfl HPL.out i5 (fun _ a ha => ⟨Nat.le_trans hsq (F5.out a ha), fun e => absurd (HVQ.out a.block e.symm) (Nat.not_lt.2 (F5.out a ha))⟩) HLL.out (Nat.le_trans hsq hsi) ?_; intro v3 w7 ho3 hb7 hg7 hob)
                          go_roundw
                          case rel => exact ⟨p + 1, by omega, by go_num, by rw [HLN.out, ← HLI.out]; exact ho3, (HBQ.out.trans (HBI.out.mono hsq)).trans hb7⟩
                          case measure => simp [intOf]; omega
                        · have HI := Lib.hid (itI_some hn)
                          have hj1 : j < nx.length := it_short HQN.out HNL.out hn
                          have hyx : y < nx.length := it_lt HQN.out _ _ hn
                          rw [HI.out]
                          have HP := Lib.hid (pre_some hn)
                          have HPL2 := Lib.hid (pre_length hn)
                          have HII := Lib.hid (itI_succ hn)
                          have HJ1 := Lib.hid hj1
                          have hyk : y < q := by have := HXL.out; omega
                          have hjk : j < q := by have := HXL.out; omega
                          have hfo := foN_get (nx := nx) (S := q) (k := q) hyk
                          rw [if_pos hyk] at hfo
                          have ca := (HBQ.out.cell hga1).trans (HA.out.cell hfo)
                          have HCA := Lib.hid ca
                          have hgw := Nat.lt_of_lt_of_le hga1 HBQ.out.size
                          have ca := (hbi.cell hgw).trans ca
                          have HBI := Lib.hid hbi
                          have HPL := Lib.hid hpl
                          have hlen : (preF nx p j).length < 100000000 := by omega
                          have hI : I64 (y : Int) := ⟨by omega, by omega⟩
                          have hsi := hbi.size
                          have x3 : (0 : Int) ≤ (y : Int) := by omega
                          have x4 : (y : Int) < (q : Int) := by omega
                          clear hn hpl hbi hfo hjn hj1
                          go_wp2_with (at_builtin; refine app_int wr rfl _ _ rfl wi.heap.size hc rfl rfl hlen hsi hI ?_; intro v1 w4 hc1 hbel1; have ca := ((HBI.out.trans hbel1).cell hgw).trans HCA.out)
                          go_roundw
                          case rel => exact ⟨j + 1, by rw [HII.out], HJ1.out, HPL2.out, by rw [HP.out]; exact hc1, HBI.out.trans hbel1⟩
                          case measure =>
                            obtain ⟨A6, c6, e6, _, _⟩ := hc1.form
                            obtain ⟨A7, c7, e7, _, _⟩ := hc.form
                            rw [e6, e7]
                            simp [lenV]
                            have := HPL.out
                            omega
                    · have hled2 : ledB nx nx.length p = true := by rw [HXL.out]; exact hled
                      have HLN := Lib.hid (lnF_led hled2)
                      rw [hled] at cb
                      clear hled hled2 hbq hown
                      go_wp2_with fail
                      go_roundw
                      case rel => exact ⟨p + 1, by omega, by go_num, by rw [HLN.out]; exact HOW.out, HBQ.out⟩
                      case measure => simp [intOf]; omega
                  · obtain rfl : p = q := by omega
                    have HBQ := Lib.hid hbq
                    have hs1 := HBR3.out.size
                    clear hbq
                    go_wp2
                    go_ret2
                    obtain ⟨A9, c9, rfl, hi9⟩ := hown.form
                    exact ⟨A9, c9, rfl, hi9, HB1.out.trans ((HBR3.out.trans (HBQ.out.mono hs1)).mono HB1.out.size)⟩
end Go.Proofs.Ytinjjaahljkhdaa
