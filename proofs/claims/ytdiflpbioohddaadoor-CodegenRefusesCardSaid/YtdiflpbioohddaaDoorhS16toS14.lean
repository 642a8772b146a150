/- Several texts in one: S16 S19 S23 S24 S12 Sa Mk S14. -/
import Derived.Test.YtdiflpbioohddaaDoorhCwtoS15
import Derived.Test.YtdiflpbioohddaaDoorhS3toCr
import Derived.Test.YtdiflpbioohddaaDoorhCatoCb
import Derived.Test.YtdiflpbioohddaaDoorhE5toS1
import Derived.Laws.EntriesVeiled
import Derived.Laws.Tables
import Derived.Test.YtdiflpbioohddaaDoorhS8toY3
import Derived.Test.YtdiflpbioohddaaDoorhUtoU3
import Derived.Test.YtdiflpbioohddaaDoorhE1toE3
import Derived.Test.YtdiflpbioohddaaDoorhBtoG2
import Derived.Test.YtdiflpbioohddaaDoorhPltoA
import Derived.ProofKit
import Derived.OwnWalk
set_option linter.unusedVariables false
set_option linter.unusedSimpArgs false
section
namespace Go.Proofs.YtdiflpbioohddaaDoor
open Go.RowKit
theorem entryPM (w : World) (L M : List Value) : ∀ W, W = ((w.alloc (.cells L.toArray 41)).alloc (.cells M.toArray 32)) → Box W w.heap.size L ∧ Box W (w.heap.size + 1) M ∧ Below w.heap.size w W := fun W hW => by
  subst hW
  have h1 : Box (w.alloc (.cells L.toArray 41)) w.heap.size L := Box.new rfl
  have h2 : Box ((w.alloc (.cells L.toArray 41)).alloc (.cells M.toArray 32)) (w.heap.size + 1) M := Box.new (by simp)
  exact ⟨h1.alloc _, h2, ((Below.refl w.heap.size w).alloc (Nat.le_refl _) _).alloc (by simp) _⟩
theorem Box.c5 {w : World} {g : Nat} {a b c d e : Value} (x : Box w g [a, b, c, d, e]) : w.cell? ⟨g, 0, none⟩ = some a ∧ w.cell? ⟨g, 1, none⟩ = some b ∧ w.cell? ⟨g, 2, none⟩ = some c ∧ w.cell? ⟨g, 3, none⟩ = some d ∧ w.cell? ⟨g, 4, none⟩ = some e :=
  ⟨x.2.1 0, x.2.1 1, x.2.1 2, x.2.1 3, x.2.1 4⟩
set_option maxRecDepth 100000 in
set_option maxHeartbeats 8000000 in
theorem sm_Valid (u : PrgA) (x : MacA) (w : World) (hf : FormsAt w) (hp : PrgAt w u) (hx : MacAt w x) (hr9 : u.d.rg.length ≤ 9223372036854775807) (hc9 : u.d.code.length ≤ 9223372036854775807) (hm9 : MacLen x.m) {R : Bool} (hR : macB u.d x.m = R) :
    Calls Tryd.prog 42 #[u.v, x.v] w fun e w' => e = .returned (.bool R) ∧ Below w.heap.size w w' := by
  obtain ⟨V, hV⟩ : ∃ b, validB u.d = b := ⟨_, rfl⟩
  have CV : Hid (∀ w1, Below w.heap.size w w1 → Calls Tryd.prog 39 #[u.v] w1 fun e w' => e = .returned (.bool V) ∧ Below w1.heap.size w1 w') := Lib.hid fun w1 hb => pr_Valid u w1 (hf.grow hb) (hp.grow hb) hr9 hc9 hV
  obtain ⟨⟨d0, d1, d2, d3, c0, c1, c2, c3, rg, cl⟩, RA, CA, rc, cc⟩ := u
  obtain ⟨⟨rs, ms, hs, cy, st⟩, GA, MA, HA, gc, mc, hc⟩ := x
  obtain ⟨hra, -⟩ := hp
  obtain ⟨hga, hma, hha⟩ := hx
  obtain ⟨l1, l2, l3⟩ := hm9
  simp only at hra hr9 hc9 hga hma hha l1 l2 l3
  obtain ⟨rn, hrn⟩ : ∃ n, rg.length = n := ⟨_, rfl⟩
  obtain ⟨cn, hcn⟩ : ∃ n, cl.length = n := ⟨_, rfl⟩
  obtain ⟨gn, hgn⟩ : ∃ n, rs.length = n := ⟨_, rfl⟩
  obtain ⟨mn, hmn⟩ : ∃ n, ms.length = n := ⟨_, rfl⟩
  obtain ⟨hn, hhn⟩ : ∃ n, hs.length = n := ⟨_, rfl⟩
  obtain ⟨PD, hPD⟩ : ∃ x : PrgD, x = ⟨d0, d1, d2, d3, c0, c1, c2, c3, rg, cl⟩ := ⟨_, rfl⟩
  have ev : PrgA.v ⟨⟨d0, d1, d2, d3, c0, c1, c2, c3, rg, cl⟩, RA, CA, rc, cc⟩ = .agg #[.int .i64 d0, .int .i64 d1, .int .i64 d2, .int .i64 d3, .int .i64 c0, .int .i64 c1, .int .i64 c2, .int .i64 c3, .slice RA rn rc, .slice CA cn cc] := by
    unfold PrgA.v PrgA.lst
    simp only [hrn, hcn]
  have em : MacA.v ⟨⟨rs, ms, hs, cy, st⟩, GA, MA, HA, gc, mc, hc⟩ = .agg #[.slice GA gn gc, .slice MA mn mc, .slice HA hn hc, .int .i64 cy, .int .i64 st] := by
    unfold MacA.v MacA.lst
    simp only [hgn, hmn, hhn]
  rw [ev] at CV ⊢
  rw [em]
  simp only at hR hV
  rw [← hPD] at hR hV
  have HR : Hid (∀ b, macB PD ⟨rs, ms, hs, cy, st⟩ = b → R = b) := Lib.hid fun b h => hR.symm.trans h
  have HPD := Lib.hid hPD
  have HRG : Hid (PD.rg = rg) := by rw [hPD]; exact Lib.hid rfl
  have HVV := Lib.hid hV
  have HRN := Lib.hid hrn
  have HRA := Lib.hid hra
  have HGA := Lib.hid hga
  have HMA := Lib.hid hma
  have HHA := Lib.hid hha
  have HGN := Lib.hid hgn
  have HMN := Lib.hid hmn
  have HHN := Lib.hid hhn
  rw [hrn] at hr9
  rw [hgn] at l1
  rw [hmn] at l2
  rw [hhn] at l3
  clear ev em hf hra hga hma hha hrn hcn hgn hmn hhn hPD hV hR hc9
  go_enter Tryd.func42, Tryd.ntmps42
  go_upto_region 1 with fail
  obtain ⟨bp, br, hb0⟩ := entryPM w [.int .i64 d0, .int .i64 d1, .int .i64 d2, .int .i64 d3, .int .i64 c0, .int .i64 c1, .int .i64 c2, .int .i64 c3, .slice RA rn rc, .slice CA cn cc] [.slice GA gn gc, .slice MA mn mc, .slice HA hn hc, .int .i64 cy, .int .i64 st] _ rfl
  change Code.wp _ _ _ _ ((w.alloc (.cells [.int .i64 d0, .int .i64 d1, .int .i64 d2, .int .i64 d3, .int .i64 c0, .int .i64 c1, .int .i64 c2, .int .i64 c3, .slice RA rn rc, .slice CA cn cc].toArray 41)).alloc (.cells [.slice GA gn gc, .slice MA mn mc, .slice HA hn hc, .int .i64 cy, .int .i64 st].toArray 32))
  generalize ((w.alloc (.cells [.int .i64 d0, .int .i64 d1, .int .i64 d2, .int .i64 d3, .int .i64 c0, .int .i64 c1, .int .i64 c2, .int .i64 c3, .slice RA rn rc, .slice CA cn cc].toArray 41)).alloc (.cells [.slice GA gn gc, .slice MA mn mc, .slice HA hn hc, .int .i64 cy, .int .i64 st].toArray 32)) = W0 at bp br hb0 ⊢
  have HB0 := Lib.hid hb0
  have HBP0 := Lib.hid bp
  have HBR0 := Lib.hid br
  clear hb0 bp br
  generalize hgp : w.heap.size = gp at HBP0 HBR0 ⊢
  have HGP := Lib.hid hgp
  clear hgp
  cases V with
  | false =>
    go_wp2_with (first
      | ((with_reducible show wpList _ _ _ (Oper.mk (some 8) (.load _ _) _ _ _ _ :: _) _ _); refine ld_prg HBP0.out rfl rfl _ rfl rfl ?_)
      | (go_at_call 39; (with_reducible refine (CV.out _ HB0.out).mono ?_); rintro e1 w1 ⟨rfl, hb1⟩))
    go_ret
    exact ⟨by rw [HR.out false (by unfold macB; rw [HVV.out]; rfl)]; rfl, below_then HB0.out hb1⟩
  | true =>
    go_upto_region 3 with (first
      | ((with_reducible show wpList _ _ _ (Oper.mk (some 8) (.load _ _) _ _ _ _ :: _) _ _); refine ld_prg HBP0.out rfl rfl _ rfl rfl ?_)
      | (go_at_call 39; (with_reducible refine (CV.out _ HB0.out).mono ?_); rintro e1 w1 ⟨rfl, hb1⟩))
    have HB1 := Lib.hid (below_then HB0.out hb1)
    have HBP1 := Lib.hid (HBP0.out.keep hb1)
    have HBR1 := Lib.hid (HBR0.out.keep hb1)
    clear hb1 HBP0 HBR0 HB0 CV
    have x8 := HBP1.out.c10.2.2.1
    obtain ⟨y0, y1, y2, y3, y4⟩ := HBR1.out.c5
    by_cases hl : (gn = 8 ∧ mn = 128) ∧ hn = rn
    · obtain ⟨⟨rfl, rfl⟩, rfl⟩ := hl
      have HLL : Hid (decide (rs.length = 8 ∧ ms.length = 128 ∧ hs.length = PD.rg.length) = true) := Lib.hid (decide_eq_true ⟨HGN.out, HMN.out, by rw [HHN.out, HRG.out, HRN.out]⟩)
      have HL4 : Hid (([.int .i64 d0, .int .i64 d1, .int .i64 d2, .int .i64 d3, .int .i64 c0, .int .i64 c1, .int .i64 c2, .int .i64 c3, .slice RA hn rc, .slice CA cn cc] : List Value).take 4 = [.int .i64 PD.d0, .int .i64 PD.d1, .int .i64 PD.d2, .int .i64 PD.d3]) := by rw [HPD.out]; exact Lib.hid rfl
      obtain ⟨bg, hbg⟩ : ∃ b, wordD PD rs = b := ⟨_, rfl⟩
      obtain ⟨bm, hbm⟩ : ∃ b, wordD PD ms = b := ⟨_, rfl⟩
      have HBG := Lib.hid hbg
      have HBM := Lib.hid hbm
      have hmf : ∀ (fn : Fn) (first cap : Array Value) (w : World), (Instr.makeFunc fn first cap).run Tryd.prog w = .ok (.func fn first cap) w := fun _ _ _ _ => rfl
      clear hbg hbm
      have CF : Hid (∀ (w1 : World) A n c l b, Ints w1 A l → l.length = n → n ≤ 9223372036854775807 → Box w1 gp [.int .i64 d0, .int .i64 d1, .int .i64 d2, .int .i64 d3, .int .i64 c0, .int .i64 c1, .int .i64 c2, .int .i64 c3, .slice RA hn rc, .slice CA cn cc] → wordD PD l = b → Calls Tryd.prog 75 #[.slice A n c, .func (.func 74) #[] #[.pointer (some ⟨gp, 0, none⟩)]] w1 fun e w' => e = .returned (.bool (!b)) ∧ Below w1.heap.size w1 w') := Lib.hid fun w1 A n c l b h1 h2 h3 h4 h5 => sl_ContainsFunc PD _ gp A n c l w1 h1 h2 h3 h4 HL4.out h5
      have h80 : (8 : Nat) ≤ 9223372036854775807 ∧ (128 : Nat) ≤ 9223372036854775807 := by decide
      have H80 := Lib.hid h80
      clear h80 l1 l2
      have HZN := HRN
      cases bg with
      | false =>
        have HNO := Lib.hid (HR.out false (by unfold macB; rw [HVV.out, HLL.out, HBG.out]; rfl))
        go_wp2_with (go_at_call 75; (with_reducible refine (CF.out _ _ _ _ _ _ (HGA.out.grow HB1.out) HGN.out H80.out.1 HBP1.out HBG.out).mono ?_); rintro e1 w2 ⟨rfl, hb2⟩)
        go_ret
        exact ⟨by rw [HNO.out]; rfl, below_then HB1.out hb2⟩
      | true =>
        cases bm with
        | false =>
          have HNO := Lib.hid (HR.out false (by unfold macB; rw [HVV.out, HLL.out, HBG.out, HBM.out]; rfl))
          go_wp2_with (go_at_call 75; (first
            | ((with_reducible refine (CF.out _ _ _ _ _ _ (HGA.out.grow HB1.out) HGN.out H80.out.1 HBP1.out HBG.out).mono ?_); rintro e1 w2 ⟨rfl, hb2⟩; obtain ⟨y0, y1, y2, y3, y4⟩ := (HBR1.out.keep hb2).c5)
            | ((with_reducible refine (CF.out _ _ _ _ _ _ ((HMA.out.grow HB1.out).grow hb2) HMN.out H80.out.2 (HBP1.out.keep hb2) HBM.out).mono ?_); rintro e1 w3 ⟨rfl, hb3⟩)))
          go_ret
          exact ⟨by rw [HNO.out]; rfl, below_then (below_then HB1.out hb2) hb3⟩
        | true =>
          go_upto_region 8 with (go_at_call 75; (first
            | ((with_reducible refine (CF.out _ _ _ _ _ _ (HGA.out.grow HB1.out) HGN.out H80.out.1 HBP1.out HBG.out).mono ?_); rintro e1 w2 ⟨rfl, hb2⟩; obtain ⟨y0, y1, y2, y3, y4⟩ := (HBR1.out.keep hb2).c5)
            | ((with_reducible refine (CF.out _ _ _ _ _ _ ((HMA.out.grow HB1.out).grow hb2) HMN.out H80.out.2 (HBP1.out.keep hb2) HBM.out).mono ?_); rintro e1 w3 ⟨rfl, hb3⟩)))
          have hb23 := below_then hb2 hb3
          have HB3 := Lib.hid (below_then HB1.out hb23)
          have HBP3 := Lib.hid (HBP1.out.keep hb23)
          have HBR3 := Lib.hid (HBR1.out.keep hb23)
          obtain ⟨y0, y1, y2, y3, y4⟩ := HBR3.out.c5
          clear hb2 hb3 hb23 HBP1 HBR1 HB1 CF hmf x8
          obtain ⟨L, hL⟩ : ∃ L : List Value, [.int .i64 d0, .int .i64 d1, .int .i64 d2, .int .i64 d3, .int .i64 c0, .int .i64 c1, .int .i64 c2, .int .i64 c3, .slice RA hn rc, .slice CA cn cc] = L := ⟨_, rfl⟩
          obtain ⟨M, hM⟩ : ∃ L : List Value, [.slice GA 8 gc, .slice MA 128 mc, .slice HA hn hc, .int .i64 cy, .int .i64 st] = L := ⟨_, rfl⟩
          rw [hL] at HBP3
          rw [hM] at HBR3
          have HL8 : Hid (L[8]? = some (.slice RA hn rc)) := by rw [← hL]; exact Lib.hid rfl
          have HM3 : Hid (M[3]? = some (.int .i64 cy) ∧ M[4]? = some (.int .i64 st)) := by rw [← hM]; exact Lib.hid ⟨rfl, rfl⟩
          clear hL hM HL4
          go_wp2_with fail
          clear y0 y1 y2 y3 y4
          go_loopw [44] (fun x wr => ∃ k : Nat, k ≤ hn ∧ x = .int .i64 k ∧ Hid (∀ j, j < k → 0 ≤ hs.getD j 0 ∧ hs.getD j 0 < (rg.getD j (0, 0)).2) ∧ Hid (Box wr gp L) ∧ Hid (Box wr (gp + 1) M) ∧ Hid (Below w.heap.size w wr)) (fun x _ => hn - (intOf x).toNat)
          case atStart => exact ⟨0, Nat.zero_le _, rfl, Lib.hid (fun j hj => by omega), HBP3, HBR3, HB3⟩
          case round =>
            obtain ⟨k, hk, rfl, HK, HBP, HBR, HB⟩ := hrel
            have x8 : wr.cell? ⟨gp, 8, none⟩ = some (.slice RA hn rc) := (HBP.out.2.1 8).trans HL8.out
            by_cases hlt : k < hn
            · obtain ⟨ha, hd, e1, hbk, hx, hcc, i1, i2⟩ := (HHA.out.grow HB.out).at_ (k := k) (by rw [HHN.out]; exact hlt)
              subst e1
              obtain ⟨⟨xb, xl⟩, hxr⟩ : ∃ x, rg[k]? = some x := ⟨_, List.getElem?_eq_getElem (by rw [HRN.out]; exact hlt)⟩
              obtain ⟨ad, hA, hsp, hbl, hrr, -⟩ := (HRA.out.grow HB.out) k (xb, xl) hxr
              obtain ⟨-, r1⟩ := ring_cells hsp hrr
              subst hA
              simp only at r1
              have q1 : (0 : Int) ≤ (k : Int) := by omega
              have q2 : (k : Int) < (hn : Int) := by omega
              have wk : IntKind.i64.wrap ((k : Int) + 1) = ((k + 1 : Nat) : Int) := (IntWalk.i64_in _ (by omega)).trans (by omega)
              have HD1 : Hid (hs.getD k 0 = hd) := by rw [List.getD_eq_getElem?_getD, hx]; exact Lib.hid rfl
              have HD2 : Hid (rg.getD k (0, 0) = (xb, xl)) := by rw [List.getD_eq_getElem?_getD, hxr]; exact Lib.hid rfl
              have hbad : ¬ (0 ≤ hd ∧ hd < xl) → R = false := fun hh => HR.out false (by
                have : headsB PD.rg hs = false := by
                  rw [HRG.out, Bool.eq_false_iff]
                  intro h2
                  have := headsB_at h2 (k := k) (by rw [HHN.out]; exact hlt)
                  rw [HD1.out, HD2.out] at this
                  exact hh this
                unfold macB
                rw [HVV.out, HLL.out, HBG.out, HBM.out, this]; rfl)
              have HBAD := Lib.hid hbad
              clear hx hxr hsp hbl hrr hbk hbad
              by_cases h1 : hd < 0
              · have g1 : decide (hd < 0) = true := decide_eq_true h1
                have HNO := Lib.hid (HBAD.out (by omega))
                go_wp2_with fail
                go_ret
                exact ⟨by rw [HNO.out]; rfl, HB.out⟩
              · have g1 : decide (hd < 0) = false := decide_eq_false h1
                by_cases h2 : xl ≤ hd
                · have g2 : decide (xl ≤ hd) = true := decide_eq_true h2
                  have HNO := Lib.hid (HBAD.out (by omega))
                  go_wp2_with fail
                  go_ret
                  exact ⟨by rw [HNO.out]; rfl, HB.out⟩
                · have g2 : decide (xl ≤ hd) = false := decide_eq_false h2
                  have h3 : 0 ≤ hd ∧ hd < xl := by omega
                  have H3 := Lib.hid h3
                  clear h3
                  go_wp2_with fail
                  go_roundw
                  case rel => exact ⟨k + 1, by omega, by go_num, Lib.hid fun j hj => by
                    by_cases e : j = k
                    · rw [e, HD1.out, HD2.out]; exact H3.out
                    · exact HK.out j (by omega), HBP, HBR, HB⟩
                  case measure => simp [intOf]; omega
            · obtain rfl : k = hn := by omega
              have HHB : Hid (headsB PD.rg hs = true) := by
                rw [HRG.out]
                unfold headsB
                refine Lib.hid (List.all_eq_true.2 fun j hj => ?_)
                have hj := List.mem_range.1 hj
                rw [HHN.out] at hj
                rw [decide_eq_true_eq]
                exact HK.out j hj
              have HFIN : Hid (R = (inB cy 0 1099511627776 && inB st 0 1099511627776)) := Lib.hid (HR.out _ (by
                unfold macB
                rw [HVV.out, HLL.out, HBG.out, HBM.out, HHB.out]
                simp only [Bool.true_and]))
              have z3 : wr.cell? ⟨gp + 1, 3, none⟩ = some (.int .i64 cy) := (HBR.out.2.1 3).trans HM3.out.1
              have z4 : wr.cell? ⟨gp + 1, 4, none⟩ = some (.int .i64 st) := (HBR.out.2.1 4).trans HM3.out.2
              clear hlt
              rcases Int.lt_or_le cy 0 with a1 | a1
              · have g1 : decide (0 ≤ cy) = false := decide_eq_false (by omega)
                go_wp2_with fail
                go_ret
                exact ⟨by rw [HFIN.out]; unfold inB; rw [g1]; rfl, HB.out⟩
              · have g1 : decide (0 ≤ cy) = true := decide_eq_true a1
                rcases Int.lt_or_le 1099511627776 cy with a2 | a2
                · have g2 : decide (cy ≤ 1099511627776) = false := decide_eq_false (by omega)
                  go_wp2_with fail
                  go_ret
                  exact ⟨by rw [HFIN.out]; unfold inB; rw [g1, g2]; rfl, HB.out⟩
                · have g2 : decide (cy ≤ 1099511627776) = true := decide_eq_true a2
                  rcases Int.lt_or_le st 0 with a3 | a3
                  · have g3 : decide (0 ≤ st) = false := decide_eq_false (by omega)
                    go_wp2_with fail
                    go_ret
                    exact ⟨by rw [HFIN.out]; unfold inB; rw [g1, g2, g3]; rfl, HB.out⟩
                  · have g3 : decide (0 ≤ st) = true := decide_eq_true a3
                    rcases Int.lt_or_le 1099511627776 st with a4 | a4
                    · have g4 : decide (st ≤ 1099511627776) = false := decide_eq_false (by omega)
                      go_wp2_with fail
                      go_ret
                      exact ⟨by rw [HFIN.out]; unfold inB; rw [g1, g2, g3, g4]; rfl, HB.out⟩
                    · have g4 : decide (st ≤ 1099511627776) = true := decide_eq_true a4
                      go_wp2_with fail
                      go_ret
                      exact ⟨by rw [HFIN.out]; unfold inB; rw [g1, g2, g3, g4]; rfl, HB.out⟩
    · have HLL : Hid (decide (rs.length = 8 ∧ ms.length = 128 ∧ hs.length = PD.rg.length) = false) := Lib.hid (decide_eq_false (by rw [HGN.out, HMN.out, HHN.out, HRG.out, HRN.out]; omega))
      have HNO := Lib.hid (HR.out false (by unfold macB; rw [HVV.out, HLL.out]; rfl))
      by_cases h1 : gn = 8
      · subst h1
        by_cases h2 : mn = 128
        · subst h2
          have h3 : ¬ hn = rn := by omega
          have g1 : ((hn : Int) == (rn : Int)) = false := beq_eq_false_iff_ne.2 (by omega)
          have g2 : decide ((hn : Int) = (rn : Int)) = false := decide_eq_false (by omega)
          have g3 : (hn == rn) = false := by simpa using h3
          have g4 : ((hn : Int) != (rn : Int)) = true := bne_iff_ne.2 (by omega)
          go_wp2_with fail
          go_ret
          exact ⟨by rw [HNO.out]; rfl, HB1.out⟩
        · have g1 : ((mn : Int) == 128) = false := by simp; omega
          have g4 : ((mn : Int) != 128) = true := by simp; omega
          go_wp2_with fail
          go_ret
          exact ⟨by rw [HNO.out]; rfl, HB1.out⟩
      · have g1 : ((gn : Int) == 8) = false := by simp; omega
        have g4 : ((gn : Int) != 8) = true := by simp; omega
        go_wp2_with fail
        go_ret
        exact ⟨by rw [HNO.out]; rfl, HB1.out⟩
end Go.Proofs.YtdiflpbioohddaaDoor
end
section
namespace Go.Proofs.YtdiflpbioohddaaDoor
open Go.RowKit
theorem lst_eight {u : PrgA} {n : Nat} (h : u.d.rg.length = n) : u.lst[8]? = some (.slice u.RA n u.rc) := by rw [← h]; rfl
theorem size_mac : (Tryd.prog.info? 32).map (·.size) = some 5 := by kernel_rfl
theorem row_mac : ∃ d, Tryd.prog.underlying 32 = some d ∧ d.isRow = true := ⟨_, Tryd.underlying32, rfl⟩
end Go.Proofs.YtdiflpbioohddaaDoor
end
section
namespace Go.Proofs.YtdiflpbioohddaaDoor
open Go.RowKit
def zeros5 : List Value := [.slice none 0 0, .slice none 0 0, .slice none 0 0, .int .i64 0, .int .i64 0]
theorem ld_mac {ops : Array Oper} {rest : List Oper} {o : Oper} {a : Act} {Q : Exit → Act → World → Prop} {w : World} {g : Nat} {L : List Value} (hb : Box w g L) (hL : L.length = 5) (hgd : o.guard = none) (x : Operand) (ho : o.op = .load 32 x) (hx : a.eval x = .pointer (some ⟨g, 0, none⟩)) (h : wpList Tryd.prog ops Q rest (a.put o.dst (.agg L.toArray)) w) : wpList Tryd.prog ops Q (o :: rest) a w := by
  obtain ⟨d, h1, h2⟩ := row_mac
  exact wp_ld hgd _ x ho g 0 hx hb L (fun j v hj => by rw [Nat.zero_add]; exact hj) d h1 h2 (by rw [hL]; exact size_mac) h
theorem st_mac {ops : Array Oper} {rest : List Oper} {o : Oper} {a : Act} {Q : Exit → Act → World → Prop} {w : World} {L M : List Value} {g : Nat} (hb : Box w g M) (hM : M.length = 5) (hL : L.length = 5) (h1 : L.all (·.oneCell') = true) (hgd : o.guard = none) (x y : Operand) (ho : o.op = .store 32 x y) (hx : a.eval x = .pointer (some ⟨g, 0, none⟩)) (hy : a.eval y = .agg L.toArray)
    (h : ∀ W1, Box W1 g L → w.grownBy W1 (some g) → wpList Tryd.prog ops Q rest (a.put o.dst undef) W1) : wpList Tryd.prog ops Q (o :: rest) a w :=
  wp_st hgd _ x y ho g 0 L hx hy (by rw [hL]; exact size_mac) h1 hb (by rw [hM, hL]; exact Nat.le_refl _) (by rw [List.take_zero, List.nil_append, List.drop_eq_nil_of_le (by rw [hM, hL]; exact Nat.le_refl _), List.append_nil]) h
theorem own_setsI {base E sz n : Nat} {w w' : World} {v : Value} {xs : List Value} {g : Nat} (h : w.ownsRow base E sz v n xs) (hg : w.grownBy w' (some g)) (hlt : g < base) : w'.ownsRow base E sz v n xs :=
  h.kept hg (.inr (fun e => by have := (h.lt _ e).1; omega))
theorem grown_toI {a w w' : World} {g : Nat} (h : Below a.heap.size a w) (hg : w.grownBy w' (some g)) (hs : a.heap.size ≤ g) : Below a.heap.size a w' := h.grown hg h.size (fun k e => by injection e with e; omega)
end Go.Proofs.YtdiflpbioohddaaDoor
end
section
namespace Go.Proofs.YtdiflpbioohddaaDoor
open Go.RowKit
theorem wp_bldR {ops : Array Oper} {rest : List Oper} {o : Oper} {a : Act} {Q : Exit → Act → World → Prop} {w : World} (hgd : o.guard = none) (ty : TypeId) (parts : Array (Nat × Operand)) (ho : o.op = .build ty parts) (ps : List (Nat × Value)) (hp : parts.toList.map (fun p => (p.1, a.eval p.2)) = ps) {cells : Array Value}
    (hb : Tryd.prog.built ty ps = some cells) (h : wpList Tryd.prog ops Q rest (a.put o.dst (.agg cells)) w) : wpList Tryd.prog ops Q (o :: rest) a w := by
  have e : (parts.map fun (i, x) => (i, a.eval x)).toList = ps := by rw [Array.toList_map]; exact hp
  refine wpList_plain hgd fun _ hK => wp_build ty parts ho (by rw [e, hb]; rfl) (hK _ _ ?_)
  rw [e, hb]; exact h
end Go.Proofs.YtdiflpbioohddaaDoor
end
section
namespace Go.Proofs.YtdiflpbioohddaaDoor
open Go.RowKit
def TyAt (w : World) (q : Nat) (t : TypeId) : Prop := ∃ cs r, w.heap[q]? = some (.cells cs t r)
theorem TyAt.grow {w w' : World} {q : Nat} {t : TypeId} (h : TyAt w q t) (hq : q < w.heap.size) (hb : Below w.heap.size w w') : TyAt w' q t := by
  obtain ⟨cs, r, e⟩ := h
  exact ⟨cs, r, (hb.block q hq).trans e⟩
end Go.Proofs.YtdiflpbioohddaaDoor
end
section
namespace Go.Proofs.YtdiflpbioohddaaDoor
open Go.RowKit
def MacF (b : Nat) (w : World) (z : MacA) : Prop := (z.m.regs ≠ [] → ∀ a, z.GA = some a → b ≤ a.block ∧ TyAt w a.block 3) ∧ (z.m.mem ≠ [] → ∀ a, z.MA = some a → b ≤ a.block ∧ TyAt w a.block 3) ∧ (z.m.heads ≠ [] → ∀ a, z.HA = some a → b ≤ a.block ∧ TyAt w a.block 3)
theorem TyAt.lt {w : World} {q : Nat} {t : TypeId} (h : TyAt w q t) : q < w.heap.size := by
  obtain ⟨cs, r, e⟩ := h
  exact (Array.getElem?_eq_some_iff.1 e).1
theorem TyAt.kept {w w' : World} {q g : Nat} {t : TypeId} (h : TyAt w q t) (hg : w.grownBy w' (some g)) (hn : q ≠ g) : TyAt w' q t := by
  have hl := h.lt
  obtain ⟨cs, r, e⟩ := h
  exact ⟨cs, r, (hg.block q hl (fun e => hn (by injection e))).trans e⟩
theorem TyAt.apart {w : World} {q g : Nat} {s t : TypeId} (h : TyAt w q s) (h' : TyAt w g t) (hn : s ≠ t) : q ≠ g := by
  rintro rfl
  obtain ⟨cs, r, e⟩ := h
  obtain ⟨cs', r', e'⟩ := h'
  rw [e] at e'
  injection e' with e'
  injection e' with _ e' _
  exact hn e'
theorem MacF.map {b b' : Nat} {w w' : World} {z : MacA} (h : MacF b w z) (f : ∀ a : Addr, b ≤ a.block → TyAt w a.block 3 → b' ≤ a.block ∧ TyAt w' a.block 3) : MacF b' w' z :=
  ⟨fun n a e => f a (h.1 n a e).1 (h.1 n a e).2, fun n a e => f a (h.2.1 n a e).1 (h.2.1 n a e).2, fun n a e => f a (h.2.2 n a e).1 (h.2.2 n a e).2⟩
theorem MacF.grow {b : Nat} {w w' : World} {z : MacA} (h : MacF b w z) (hb : Below w.heap.size w w') : MacF b w' z := h.map fun _ q t => ⟨q, t.grow t.lt hb⟩
theorem MacF.mono {b c : Nat} {w : World} {z : MacA} (h : MacF c w z) (hb : b ≤ c) : MacF b w z := h.map fun _ q t => ⟨Nat.le_trans hb q, t⟩
theorem MacAt.away {w w' : World} {z : MacA} {b g : Nat} (h : MacAt w z) (hf : MacF b w z) (hg : w.grownBy w' (some g)) (hn : ∀ a : Addr, b ≤ a.block → TyAt w a.block 3 → a.block ≠ g) : MacAt w' z ∧ MacF b w' z :=
  ⟨⟨h.1.kept hg fun n a e q => by injection q with q; exact hn a (hf.1 n a e).1 (hf.1 n a e).2 q, h.2.1.kept hg fun n a e q => by injection q with q; exact hn a (hf.2.1 n a e).1 (hf.2.1 n a e).2 q, h.2.2.kept hg fun n a e q => by injection q with q; exact hn a (hf.2.2 n a e).1 (hf.2.2 n a e).2 q⟩,
   hf.map fun a q t => ⟨q, t.kept hg (hn a q t)⟩⟩
theorem MacAt.kept {w w' : World} {z : MacA} {b g : Nat} (h : MacAt w z) (hf : MacF b w z) (hg : w.grownBy w' (some g)) (hlt : g < b) : MacAt w' z ∧ MacF b w' z := h.away hf hg fun _ q _ => by omega
theorem MacAt.ty {w w' : World} {z : MacA} {b g : Nat} (h : MacAt w z) (hf : MacF b w z) (hg : w.grownBy w' (some g)) (ht : TyAt w g 32) : MacAt w' z ∧ MacF b w' z := h.away hf hg fun _ _ t => t.apart ht (by decide)
theorem MacAt.off {w0 w w' : World} {z : MacA} {b g : Nat} (h0 : MacF b w0 z) (hle : w0.heap.size ≤ g) (h : MacAt w z) (hf : MacF b w z) (hg : w.grownBy w' (some g)) : MacAt w' z ∧ MacF b w' z := by
  have q1 := fun n a e => (h0.1 n a e).2.lt
  have q2 := fun n a e => (h0.2.1 n a e).2.lt
  have q3 := fun n a e => (h0.2.2 n a e).2.lt
  exact ⟨⟨h.1.kept hg fun n a e q => by injection q with q; have := q1 n a e; omega, h.2.1.kept hg fun n a e q => by injection q with q; have := q2 n a e; omega, h.2.2.kept hg fun n a e q => by injection q with q; have := q3 n a e; omega⟩,
    fun n a e => ⟨(hf.1 n a e).1, (hf.1 n a e).2.kept hg (by have := q1 n a e; omega)⟩, fun n a e => ⟨(hf.2.1 n a e).1, (hf.2.1 n a e).2.kept hg (by have := q2 n a e; omega)⟩, fun n a e => ⟨(hf.2.2 n a e).1, (hf.2.2 n a e).2.kept hg (by have := q3 n a e; omega)⟩⟩
end Go.Proofs.YtdiflpbioohddaaDoor
end
section
namespace Go.Proofs.YtdiflpbioohddaaDoor
open Go.RowKit
theorem add_cells {b k : Nat} : (⟨b, 0, none⟩ : Addr).add k = ⟨b, k, none⟩ := by
  unfold Addr.add
  by_cases h0 : k = 0 <;> simp [h0]
theorem Row.lit {w : World} {cs : Array Value} {t : TypeId} : Row (w.alloc (.cells cs t)) (w.alloc (.cells cs t)).heap.size (some ⟨w.heap.size, 0, none⟩) cs.toList := fun k v hk => by
  refine ⟨_, rfl, by simp, ?_⟩
  rw [add_cells]
  simpa [go_sem] using hk
theorem Ints.lit {w : World} {cs : Array Value} {t : TypeId} {l : List Int} (hc : cs.toList = l.map (Value.int .i64)) (hl : l.all (fun x => decide (-9223372036854775808 ≤ x) && decide (x ≤ 9223372036854775807)) = true) : Ints (w.alloc (.cells cs t)) (some ⟨w.heap.size, 0, none⟩) l := by
  refine ⟨?_, fun x hx => by have := List.all_eq_true.1 hl x hx; simp at this; exact this⟩
  rw [← hc]
  exact Row.lit
theorem rf_Same (A B : Option Addr) (l m : List Int) (c d : Nat) (w : World) (hm : m.length ≤ 9223372036854775807) (he : l = m) (h : Ints w A l) (g : Ints w B m) :
    Calls Tryd.prog 26 #[.slice A l.length c, .slice B m.length d] w fun e w' => e = .returned (.bool true) ∧ Below w.heap.size w w' :=
  (rf_SameInts A B l m c d w hm h g).mono fun e w' hh => ⟨by rw [hh.1, he]; simp, hh.2⟩
end Go.Proofs.YtdiflpbioohddaaDoor
end
section
namespace Go.Proofs.YtdiflpbioohddaaDoor
open Go.RowKit
theorem lst_ten (u : PrgA) : u.lst.length = 10 := rfl
end Go.Proofs.YtdiflpbioohddaaDoor
end
