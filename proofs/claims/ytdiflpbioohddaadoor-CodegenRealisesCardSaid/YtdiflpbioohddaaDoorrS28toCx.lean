/- Several texts in one: S28 Cx. -/
import Derived.Test.YtdiflpbioohddaaDoorrY3toS26
import Derived.Test.YtdiflpbioohddaaDoorrS22toS14
import Derived.Test.YtdiflpbioohddaaDoorrS1toE21
import Derived.Test.YtdiflpbioohddaaDoorrE31toE30
import Derived.Test.YtdiflpbioohddaaDoorrG9toVc
import Derived.Test.YtdiflpbioohddaaDoorrUtoU3
import Derived.Test.YtdiflpbioohddaaDoorrE1toI0
import Derived.Test.YtdiflpbioohddaaDoorrE6toE23
import Derived.Test.YtdiflpbioohddaaDoorrQtoG3
import Derived.Test.YtdiflpbioohddaaDoorrS8toTg
set_option linter.unusedVariables false
set_option linter.unusedSimpArgs false
section
namespace Go.Proofs.YtdiflpbioohddaaDoor
open Go.RowKit
def macZ : Mac := ⟨[], [], [], 0, 0⟩
theorem built_mac3 (A B H : Option Addr) (an ac bn bc hn hc : Nat) : Tryd.prog.built 32 [(0, .slice A an ac), (1, .slice B bn bc), (2, .slice H hn hc)] = some #[.slice A an ac, .slice B bn bc, .slice H hn hc, .int .i64 0, .int .i64 0] := by kernel_rfl
set_option maxRecDepth 100000 in
set_option maxHeartbeats 8000000 in
theorem r39_Valid (u : PrgA) (x : MacA) (w : World) (hp : PrgAt w u) (hx : MacAt w x) (hr9 : u.d.rg.length ≤ 9223372036854775807) (hc9 : u.d.code.length ≤ 9223372036854775807) (hm9 : MacLen x.m) {R : Bool} (hR : macB u.d x.m = R) :
    Calls Tryd.prog 16 #[u.v, x.v] w fun e w' => e = .returned (.bool R) ∧ Below w.heap.size w w' := by
  obtain ⟨V, hV⟩ : ∃ b, validB u.d = b := ⟨_, rfl⟩
  have CV : Hid (∀ w1, Below w.heap.size w w1 → Calls Tryd.prog 44 #[.agg u.lst.toArray] w1 fun e w' => e = .returned (.bool V) ∧ Below w1.heap.size w1 w') := Lib.hid fun w1 hb => by have h := r38_Valid u w1 (hp.grow hb) hr9 hc9 hV; unfold PrgA.v at h; exact h
  obtain ⟨⟨rs, ms, hs, cy, st⟩, GA, MA, HA, gc, mc, hc⟩ := x
  obtain ⟨hga, hma, hha⟩ := hx
  obtain ⟨l1, l2, l3⟩ := hm9
  simp only at hga hma hha l1 l2 l3 hR
  obtain ⟨rn, hrn⟩ : ∃ n, u.d.rg.length = n := ⟨_, rfl⟩
  obtain ⟨gn, hgn⟩ : ∃ n, rs.length = n := ⟨_, rfl⟩
  obtain ⟨mn, hmn⟩ : ∃ n, ms.length = n := ⟨_, rfl⟩
  obtain ⟨hn, hhn⟩ : ∃ n, hs.length = n := ⟨_, rfl⟩
  obtain ⟨bg, hbg⟩ : ∃ b, wordD u.d rs = b := ⟨_, rfl⟩
  obtain ⟨bm, hbm⟩ : ∃ b, wordD u.d ms = b := ⟨_, rfl⟩
  have CG : Hid (∀ w1, Below w.heap.size w w1 → Calls Tryd.prog 15 #[wordV u.d.d0 u.d.d1 u.d.d2 u.d.d3, .slice GA gn gc] w1 fun e w' => e = .returned (.bool bg) ∧ Below w1.heap.size w1 w') := Lib.hid fun w1 hb => by
    subst hgn hbg
    exact rf_Words _ _ _ _ GA rs gc w1 l1 (hga.grow hb)
  have CM : Hid (∀ w1, Below w.heap.size w w1 → Calls Tryd.prog 15 #[wordV u.d.d0 u.d.d1 u.d.d2 u.d.d3, .slice MA mn mc] w1 fun e w' => e = .returned (.bool bm) ∧ Below w1.heap.size w1 w') := Lib.hid fun w1 hb => by
    subst hmn hbm
    exact rf_Words _ _ _ _ MA ms mc w1 l2 (hma.grow hb)
  have CI : Hid (∀ v a b w1, Calls Tryd.prog 32 #[.int .i64 v, .int .i64 a, .int .i64 b] w1 fun e w' => e = .returned (.bool (inB v a b)) ∧ Below w1.heap.size w1 w') := Lib.hid fun v a b w1 => (rf_In v a b w1).mono fun e w' h => ⟨h.1, h.2 ▸ Below.refl _ _⟩
  have em : MacA.v ⟨⟨rs, ms, hs, cy, st⟩, GA, MA, HA, gc, mc, hc⟩ = .agg #[.slice GA gn gc, .slice MA mn mc, .slice HA hn hc, .int .i64 cy, .int .i64 st] := by
    unfold MacA.v MacA.lst
    simp only [hgn, hmn, hhn]
  have ev : u.v = .agg u.lst.toArray := rfl
  rw [ev, em]
  have HR : Hid (∀ b, macB u.d ⟨rs, ms, hs, cy, st⟩ = b → R = b) := Lib.hid fun b h => hR.symm.trans h
  have HV := Lib.hid hV
  have HRN := Lib.hid hrn
  have HRA := Lib.hid hp.1
  have HHA := Lib.hid hha
  have HGN := Lib.hid hgn
  have HMN := Lib.hid hmn
  have HHN := Lib.hid hhn
  have HBG := Lib.hid hbg
  have HBM := Lib.hid hbm
  rw [hgn] at l1
  rw [hmn] at l2
  rw [hhn] at l3
  rw [hrn] at hr9
  clear ev em hp hga hma hha hrn hgn hmn hhn hbg hbm hV hR hc9
  go_enter Tryd.func16, Tryd.ntmps16
  go_upto_region 1 with fail
  obtain ⟨bp, br, hb0⟩ := entryPM w u.lst [.slice GA gn gc, .slice MA mn mc, .slice HA hn hc, .int .i64 cy, .int .i64 st] _ rfl
  change Code.wp _ _ _ _ ((w.alloc (.cells u.lst.toArray 41)).alloc (.cells [.slice GA gn gc, .slice MA mn mc, .slice HA hn hc, .int .i64 cy, .int .i64 st].toArray 32))
  generalize ((w.alloc (.cells u.lst.toArray 41)).alloc (.cells [.slice GA gn gc, .slice MA mn mc, .slice HA hn hc, .int .i64 cy, .int .i64 st].toArray 32)) = W0 at bp br hb0 ⊢
  have HB0 := Lib.hid hb0
  have HP0 := Lib.hid bp
  have HR0 := Lib.hid br
  clear hb0 bp br
  obtain ⟨B, hB⟩ : ∃ B, w.heap.size = B := ⟨_, rfl⟩
  have HBE := Lib.hid hB
  clear hB
  obtain ⟨gp, hgp⟩ : ∃ g, w.heap.size = g := ⟨_, rfl⟩
  rw [hgp] at HP0 HR0 ⊢
  have HGP := Lib.hid hgp
  clear hgp
  cases V with
  | false =>
    have HNO := Lib.hid (HR.out false (by unfold macB; rw [HV.out]; rfl))
    go_wp2_with (first
      | ((with_reducible show wpList _ _ _ (Oper.mk _ (.load 41 _) _ _ _ _ :: _) _ _); refine ld_prg HP0.out (lst_ten u) rfl _ rfl rfl ?_)
      | (go_at_call 44; (with_reducible refine (CV.out _ HB0.out).mono ?_); rintro e1 w1 ⟨rfl, hb1⟩; obtain ⟨y0, y1, y2, y3, y4⟩ := (HR0.out.keep hb1).c5; have x8 : w1.cell? ⟨gp, 8, none⟩ = some (.slice u.RA _ u.rc) := ((HP0.out.keep hb1).2.1 8).trans (lst_eight HRN.out); have x0 : w1.cell? ⟨gp, 0, none⟩ = some (.int .i64 u.d.d0) := (HP0.out.keep hb1).2.1 0; have x1 : w1.cell? ⟨gp, 1, none⟩ = some (.int .i64 u.d.d1) := (HP0.out.keep hb1).2.1 1; have x2 : w1.cell? ⟨gp, 2, none⟩ = some (.int .i64 u.d.d2) := (HP0.out.keep hb1).2.1 2; have x3 : w1.cell? ⟨gp, 3, none⟩ = some (.int .i64 u.d.d3) := (HP0.out.keep hb1).2.1 3))
    go_ret
    exact ⟨by rw [HNO.out]; rfl, below_then HB0.out hb1⟩
  | true =>
    by_cases hl1 : gn = 8
    · subst hl1
      by_cases hl2 : mn = 128
      · subst hl2
        by_cases hl3 : hn = rn
        · subst hl3
          have HLL : Hid (decide (rs.length = 8 ∧ ms.length = 128 ∧ hs.length = u.d.rg.length) = true) := Lib.hid (decide_eq_true ⟨HGN.out, HMN.out, by rw [HHN.out, HRN.out]⟩)
          cases bg with
          | false =>
            have HNO := Lib.hid (HR.out false (by unfold macB; rw [HV.out, HLL.out, HBG.out]; rfl))
            go_wp2_with (first
              | ((with_reducible show wpList _ _ _ (Oper.mk _ (.load 41 _) _ _ _ _ :: _) _ _); refine ld_prg HP0.out (lst_ten u) rfl _ rfl rfl ?_)
              | (go_at_call 44; (with_reducible refine (CV.out _ HB0.out).mono ?_); rintro e1 w1 ⟨rfl, hb1⟩; obtain ⟨y0, y1, y2, y3, y4⟩ := (HR0.out.keep hb1).c5; have x8 : w1.cell? ⟨gp, 8, none⟩ = some (.slice u.RA _ u.rc) := ((HP0.out.keep hb1).2.1 8).trans (lst_eight HRN.out); have x0 : w1.cell? ⟨gp, 0, none⟩ = some (.int .i64 u.d.d0) := (HP0.out.keep hb1).2.1 0; have x1 : w1.cell? ⟨gp, 1, none⟩ = some (.int .i64 u.d.d1) := (HP0.out.keep hb1).2.1 1; have x2 : w1.cell? ⟨gp, 2, none⟩ = some (.int .i64 u.d.d2) := (HP0.out.keep hb1).2.1 2; have x3 : w1.cell? ⟨gp, 3, none⟩ = some (.int .i64 u.d.d3) := (HP0.out.keep hb1).2.1 3)
              | (go_at_call 15; (with_reducible refine (CG.out _ (below_then HB0.out hb1)).mono ?_); rintro e1 w2 ⟨rfl, hb2⟩; have hb12 := below_then hb1 hb2; obtain ⟨y0, y1, y2, y3, y4⟩ := (HR0.out.keep hb12).c5; have x0 : w2.cell? ⟨gp, 0, none⟩ = some (.int .i64 u.d.d0) := (HP0.out.keep hb12).2.1 0; have x1 : w2.cell? ⟨gp, 1, none⟩ = some (.int .i64 u.d.d1) := (HP0.out.keep hb12).2.1 1; have x2 : w2.cell? ⟨gp, 2, none⟩ = some (.int .i64 u.d.d2) := (HP0.out.keep hb12).2.1 2; have x3 : w2.cell? ⟨gp, 3, none⟩ = some (.int .i64 u.d.d3) := (HP0.out.keep hb12).2.1 3))
            go_ret
            exact ⟨by rw [HNO.out]; rfl, below_then HB0.out hb12⟩
          | true =>
            cases bm with
            | false =>
              have HNO := Lib.hid (HR.out false (by unfold macB; rw [HV.out, HLL.out, HBG.out, HBM.out]; rfl))
              go_wp2_with (first
                | ((with_reducible show wpList _ _ _ (Oper.mk _ (.load 41 _) _ _ _ _ :: _) _ _); refine ld_prg HP0.out (lst_ten u) rfl _ rfl rfl ?_)
                | (go_at_call 44; (with_reducible refine (CV.out _ HB0.out).mono ?_); rintro e1 w1 ⟨rfl, hb1⟩; obtain ⟨y0, y1, y2, y3, y4⟩ := (HR0.out.keep hb1).c5; have x8 : w1.cell? ⟨gp, 8, none⟩ = some (.slice u.RA _ u.rc) := ((HP0.out.keep hb1).2.1 8).trans (lst_eight HRN.out); have x0 : w1.cell? ⟨gp, 0, none⟩ = some (.int .i64 u.d.d0) := (HP0.out.keep hb1).2.1 0; have x1 : w1.cell? ⟨gp, 1, none⟩ = some (.int .i64 u.d.d1) := (HP0.out.keep hb1).2.1 1; have x2 : w1.cell? ⟨gp, 2, none⟩ = some (.int .i64 u.d.d2) := (HP0.out.keep hb1).2.1 2; have x3 : w1.cell? ⟨gp, 3, none⟩ = some (.int .i64 u.d.d3) := (HP0.out.keep hb1).2.1 3)
                | (go_at_call 15; (with_reducible refine (CG.out _ (below_then HB0.out hb1)).mono ?_); rintro e1 w2 ⟨rfl, hb2⟩; have hb12 := below_then hb1 hb2; obtain ⟨y0, y1, y2, y3, y4⟩ := (HR0.out.keep hb12).c5; have x0 : w2.cell? ⟨gp, 0, none⟩ = some (.int .i64 u.d.d0) := (HP0.out.keep hb12).2.1 0; have x1 : w2.cell? ⟨gp, 1, none⟩ = some (.int .i64 u.d.d1) := (HP0.out.keep hb12).2.1 1; have x2 : w2.cell? ⟨gp, 2, none⟩ = some (.int .i64 u.d.d2) := (HP0.out.keep hb12).2.1 2; have x3 : w2.cell? ⟨gp, 3, none⟩ = some (.int .i64 u.d.d3) := (HP0.out.keep hb12).2.1 3)
                | (go_at_call 15; (with_reducible refine (CM.out _ (below_then HB0.out hb12)).mono ?_); rintro e1 w3 ⟨rfl, hb3⟩))
              go_ret
              exact ⟨by rw [HNO.out]; rfl, below_then (below_then HB0.out hb12) hb3⟩
            | true =>
              go_upto_region 3 with (first
                | ((with_reducible show wpList _ _ _ (Oper.mk _ (.load 41 _) _ _ _ _ :: _) _ _); refine ld_prg HP0.out (lst_ten u) rfl _ rfl rfl ?_)
                | (go_at_call 44; (with_reducible refine (CV.out _ HB0.out).mono ?_); rintro e1 w1 ⟨rfl, hb1⟩; obtain ⟨y0, y1, y2, y3, y4⟩ := (HR0.out.keep hb1).c5; have x8 : w1.cell? ⟨gp, 8, none⟩ = some (.slice u.RA _ u.rc) := ((HP0.out.keep hb1).2.1 8).trans (lst_eight HRN.out); have x0 : w1.cell? ⟨gp, 0, none⟩ = some (.int .i64 u.d.d0) := (HP0.out.keep hb1).2.1 0; have x1 : w1.cell? ⟨gp, 1, none⟩ = some (.int .i64 u.d.d1) := (HP0.out.keep hb1).2.1 1; have x2 : w1.cell? ⟨gp, 2, none⟩ = some (.int .i64 u.d.d2) := (HP0.out.keep hb1).2.1 2; have x3 : w1.cell? ⟨gp, 3, none⟩ = some (.int .i64 u.d.d3) := (HP0.out.keep hb1).2.1 3)
                | (go_at_call 15; (with_reducible refine (CG.out _ (below_then HB0.out hb1)).mono ?_); rintro e1 w2 ⟨rfl, hb2⟩; have hb12 := below_then hb1 hb2; obtain ⟨y0, y1, y2, y3, y4⟩ := (HR0.out.keep hb12).c5; have x0 : w2.cell? ⟨gp, 0, none⟩ = some (.int .i64 u.d.d0) := (HP0.out.keep hb12).2.1 0; have x1 : w2.cell? ⟨gp, 1, none⟩ = some (.int .i64 u.d.d1) := (HP0.out.keep hb12).2.1 1; have x2 : w2.cell? ⟨gp, 2, none⟩ = some (.int .i64 u.d.d2) := (HP0.out.keep hb12).2.1 2; have x3 : w2.cell? ⟨gp, 3, none⟩ = some (.int .i64 u.d.d3) := (HP0.out.keep hb12).2.1 3)
                | (go_at_call 15; (with_reducible refine (CM.out _ (below_then HB0.out hb12)).mono ?_); rintro e1 w3 ⟨rfl, hb3⟩))
              have hb13 := below_then hb12 hb3
              have HB1 := Lib.hid (below_then HB0.out hb13)
              have HP1 := Lib.hid (HP0.out.keep hb13)
              have HR1 := Lib.hid (HR0.out.keep hb13)
              have hrgs : ∀ x ∈ u.d.rg, ringIn x = true := (valid_rl HV.out).2
              have HRG := Lib.hid hrgs
              clear hb1 hb2 hb3 hb12 hb13 HB0 HP0 HR0 CV CG CM y0 y1 y2 y3 y4 x0 x1 x2 x3 x8 l1 l2 hrgs
              have y3 : w3.cell? ⟨gp + 1, 3, none⟩ = some (.int .i64 cy) := HR1.out.2.1 3
              have y4 : w3.cell? ⟨gp + 1, 4, none⟩ = some (.int .i64 st) := HR1.out.2.1 4
              go_wp2_with fail
              clear y3 y4
              go_loopw [5] (fun x wr => ∃ k : Nat, k ≤ hn ∧ x = .int .i64 k ∧ Hid (∀ j, j < k → 0 ≤ hs.getD j 0 ∧ hs.getD j 0 < (u.d.rg.getD j (0, 0)).2) ∧ Hid (Box wr gp u.lst) ∧ Hid (Box wr (gp + 1) [.slice GA 8 gc, .slice MA 128 mc, .slice HA hn hc, .int .i64 cy, .int .i64 st]) ∧ Hid (Below w.heap.size w wr)) (fun x _ => hn - (intOf x).toNat)
              case atStart => exact ⟨0, Nat.zero_le _, rfl, Lib.hid (fun j hj => by omega), HP1, HR1, HB1⟩
              case round =>
                obtain ⟨k, hk, rfl, HK, HBP, HBR, HB⟩ := hrel
                have y2 : wr.cell? ⟨gp + 1, 2, none⟩ = some (.slice HA hn hc) := HBR.out.2.1 2
                by_cases hlt : k < hn
                · obtain ⟨ha, hd, e1, hbk, hx, hcc, i1, i2⟩ := (HHA.out.grow HB.out).at_ (k := k) (by rw [HHN.out]; exact hlt)
                  subst e1
                  obtain ⟨⟨xb, xl⟩, hxr⟩ : ∃ x, u.d.rg[k]? = some x := ⟨_, List.getElem?_eq_getElem (by rw [HRN.out]; exact hlt)⟩
                  obtain ⟨ad, hA, -, el, -, -⟩ := ring_ext (HRA.out.grow HB.out) hxr
                  have hin := ringIn_iff.1 (HRG.out _ (List.mem_of_getElem? hxr))
                  simp only at el hin
                  have e8 := HBP.out.ext (k := 8) (v := .slice u.RA hn u.rc) (lst_eight HRN.out)
                  rw [hA] at e8
                  have e2 := HBR.out.ext (k := 2) (v := .slice (some ha) hn hc) rfl
                  have hz : (ha.add k).block < wr.heap.size := by rw [block_add]; exact hbk
                  have eh : ∀ n : Ext wr, n.to.cell? (ha.add k) = some (.int .i64 hd) := fun n => (n.below.cell hz).trans hcc
                  have q1 : (0 : Int) ≤ (k : Int) := by omega
                  have q2 : (k : Int) < (hn : Int) := by omega
                  have wk : IntKind.i64.wrap ((k : Int) + 1) = ((k + 1 : Nat) : Int) := (IntWalk.i64_in _ (by omega)).trans (by omega)
                  have wl : IntKind.i64.wrap (xl - 1) = xl - 1 := IntWalk.i64_in _ (by omega)
                  have HD1 : Hid (hs.getD k 0 = hd) := by rw [List.getD_eq_getElem?_getD, hx]; exact Lib.hid rfl
                  have HD2 : Hid (u.d.rg.getD k (0, 0) = (xb, xl)) := by rw [List.getD_eq_getElem?_getD, hxr]; exact Lib.hid rfl
                  obtain ⟨bi, hbi⟩ : ∃ b, inB hd 0 (xl - 1) = b := ⟨_, rfl⟩
                  have CI2 : Hid (∀ w1, Calls Tryd.prog 32 #[.int .i64 hd, .int .i64 0, .int .i64 (xl - 1)] w1 fun e w' => e = .returned (.bool bi) ∧ Below w1.heap.size w1 w') := Lib.hid fun w1 => hbi ▸ CI.out hd 0 (xl - 1) w1
                  have HBI := Lib.hid hbi
                  clear hx hxr hbk hcc hz hA hin hbi
                  go_upto_region 6 with fail
                  refine wp_region_ext (by kernel_rfl) (by kernel_rfl) ?_
                  repeat (go_big_quiet_step (first | (go_at_call 32; exact ext_below (CI2.out _))))
                  refine wpQuiet_nil ?_
                  rintro w5 ⟨⟨_, hb5⟩, rfl⟩
                  cases bi with
                  | false =>
                    have HNO := Lib.hid (HR.out false (by
                      have : headsB u.d.rg hs = false := by
                        rw [Bool.eq_false_iff]
                        intro h2
                        have h3 := headsB_at h2 (k := k) (by rw [HHN.out]; exact hlt)
                        rw [HD1.out, HD2.out] at h3
                        have h4 := HBI.out
                        rw [inB_iff.2 (by simp only at h3; omega)] at h4
                        cases h4
                      unfold macB
                      rw [HV.out, HLL.out, HBG.out, HBM.out, this]; rfl))
                    go_wp2_with fail
                    go_ret
                    exact ⟨by rw [HNO.out]; rfl, below_then HB.out hb5⟩
                  | true =>
                    have h3 := inB_iff.1 HBI.out
                    have H3 : Hid (0 ≤ hd ∧ hd < xl) := Lib.hid (by omega)
                    have HBP5 := Lib.hid (HBP.out.keep hb5)
                    have HBR5 := Lib.hid (HBR.out.keep hb5)
                    have HB5 := Lib.hid (below_then HB.out hb5)
                    clear h3 hb5 e8 e2 eh el
                    go_wp2_with fail
                    go_roundw
                    case rel => exact ⟨k + 1, by omega, by go_num, Lib.hid fun j hj => by
                      by_cases e : j = k
                      · rw [e, HD1.out, HD2.out]; exact H3.out
                      · exact HK.out j (by omega), HBP5, HBR5, HB5⟩
                    case measure => simp [intOf]; omega
                · obtain rfl : k = hn := by omega
                  have HHB : Hid (headsB u.d.rg hs = true) := by
                    unfold headsB
                    refine Lib.hid (List.all_eq_true.2 fun j hj => ?_)
                    have hj := List.mem_range.1 hj
                    rw [HHN.out] at hj
                    rw [decide_eq_true_eq]
                    exact HK.out j hj
                  have HFIN : Hid (R = (inB cy 0 1099511627776 && inB st 0 1099511627776)) := Lib.hid (HR.out _ (by
                    unfold macB
                    rw [HV.out, HLL.out, HBG.out, HBM.out, HHB.out]
                    simp only [Bool.true_and]))
                  have z3 : wr.cell? ⟨gp + 1, 3, none⟩ = some (.int .i64 cy) := HBR.out.2.1 3
                  have z4 : wr.cell? ⟨gp + 1, 4, none⟩ = some (.int .i64 st) := HBR.out.2.1 4
                  obtain ⟨b1, hb1⟩ : ∃ b, inB cy 0 1099511627776 = b := ⟨_, rfl⟩
                  obtain ⟨b2, hb2⟩ : ∃ b, inB st 0 1099511627776 = b := ⟨_, rfl⟩
                  rw [hb1, hb2] at HFIN
                  have C1 : Hid (∀ w1, Calls Tryd.prog 32 #[.int .i64 cy, .int .i64 0, .int .i64 1099511627776] w1 fun e w' => e = .returned (.bool b1) ∧ w1 = w') := Lib.hid fun w1 => hb1 ▸ rf_In cy 0 1099511627776 w1
                  have C2 : Hid (∀ w1, Calls Tryd.prog 32 #[.int .i64 st, .int .i64 0, .int .i64 1099511627776] w1 fun e w' => e = .returned (.bool b2) ∧ w1 = w') := Lib.hid fun w1 => hb2 ▸ rf_In st 0 1099511627776 w1
                  clear hlt hb1 hb2
                  cases b1 with
                  | false =>
                    go_wp2_with (go_at_call 32; (with_reducible refine (C1.out _).mono ?_); rintro e1 w6 ⟨rfl, rfl⟩)
                    go_ret
                    exact ⟨by rw [HFIN.out]; rfl, HB.out⟩
                  | true =>
                    go_wp2_with (go_at_call 32; first | ((with_reducible refine (C1.out _).mono ?_); rintro e1 w6 ⟨rfl, rfl⟩) | ((with_reducible refine (C2.out _).mono ?_); rintro e1 w6 ⟨rfl, rfl⟩))
                    go_ret
                    exact ⟨by rw [HFIN.out]; rfl, HB.out⟩
        · have HLL : Hid (decide (rs.length = 8 ∧ ms.length = 128 ∧ hs.length = u.d.rg.length) = false) := Lib.hid (decide_eq_false (by rw [HHN.out, HRN.out]; omega))
          have g1 : ((hn : Int) == (rn : Int)) = false := beq_eq_false_iff_ne.2 (by omega)
          have g2 : decide ((hn : Int) = (rn : Int)) = false := decide_eq_false (by omega)
          have g3 : (hn == rn) = false := by simpa using hl3
          have g4 : ((hn : Int) != (rn : Int)) = true := bne_iff_ne.2 (by omega)
          have HNO := Lib.hid (HR.out false (by unfold macB; rw [HV.out, HLL.out]; rfl))
          go_wp2_with (first
            | ((with_reducible show wpList _ _ _ (Oper.mk _ (.load 41 _) _ _ _ _ :: _) _ _); refine ld_prg HP0.out (lst_ten u) rfl _ rfl rfl ?_)
            | (go_at_call 44; (with_reducible refine (CV.out _ HB0.out).mono ?_); rintro e1 w1 ⟨rfl, hb1⟩; obtain ⟨y0, y1, y2, y3, y4⟩ := (HR0.out.keep hb1).c5; have x8 : w1.cell? ⟨gp, 8, none⟩ = some (.slice u.RA _ u.rc) := ((HP0.out.keep hb1).2.1 8).trans (lst_eight HRN.out); have x0 : w1.cell? ⟨gp, 0, none⟩ = some (.int .i64 u.d.d0) := (HP0.out.keep hb1).2.1 0; have x1 : w1.cell? ⟨gp, 1, none⟩ = some (.int .i64 u.d.d1) := (HP0.out.keep hb1).2.1 1; have x2 : w1.cell? ⟨gp, 2, none⟩ = some (.int .i64 u.d.d2) := (HP0.out.keep hb1).2.1 2; have x3 : w1.cell? ⟨gp, 3, none⟩ = some (.int .i64 u.d.d3) := (HP0.out.keep hb1).2.1 3))
          go_ret
          exact ⟨by rw [HNO.out]; rfl, below_then HB0.out hb1⟩
      · have HLL : Hid (decide (rs.length = 8 ∧ ms.length = 128 ∧ hs.length = u.d.rg.length) = false) := Lib.hid (decide_eq_false (by rw [HMN.out]; omega))
        have g1 : ((mn : Int) == 128) = false := by simp; omega
        have g4 : ((mn : Int) != 128) = true := by simp; omega
        have HNO := Lib.hid (HR.out false (by unfold macB; rw [HV.out, HLL.out]; rfl))
        go_wp2_with (first
          | ((with_reducible show wpList _ _ _ (Oper.mk _ (.load 41 _) _ _ _ _ :: _) _ _); refine ld_prg HP0.out (lst_ten u) rfl _ rfl rfl ?_)
          | (go_at_call 44; (with_reducible refine (CV.out _ HB0.out).mono ?_); rintro e1 w1 ⟨rfl, hb1⟩; obtain ⟨y0, y1, y2, y3, y4⟩ := (HR0.out.keep hb1).c5; have x8 : w1.cell? ⟨gp, 8, none⟩ = some (.slice u.RA _ u.rc) := ((HP0.out.keep hb1).2.1 8).trans (lst_eight HRN.out); have x0 : w1.cell? ⟨gp, 0, none⟩ = some (.int .i64 u.d.d0) := (HP0.out.keep hb1).2.1 0; have x1 : w1.cell? ⟨gp, 1, none⟩ = some (.int .i64 u.d.d1) := (HP0.out.keep hb1).2.1 1; have x2 : w1.cell? ⟨gp, 2, none⟩ = some (.int .i64 u.d.d2) := (HP0.out.keep hb1).2.1 2; have x3 : w1.cell? ⟨gp, 3, none⟩ = some (.int .i64 u.d.d3) := (HP0.out.keep hb1).2.1 3))
        go_ret
        exact ⟨by rw [HNO.out]; rfl, below_then HB0.out hb1⟩
    · have HLL : Hid (decide (rs.length = 8 ∧ ms.length = 128 ∧ hs.length = u.d.rg.length) = false) := Lib.hid (decide_eq_false (by rw [HGN.out]; omega))
      have g1 : ((gn : Int) == 8) = false := by simp; omega
      have g4 : ((gn : Int) != 8) = true := by simp; omega
      have HNO := Lib.hid (HR.out false (by unfold macB; rw [HV.out, HLL.out]; rfl))
      go_wp2_with (first
        | ((with_reducible show wpList _ _ _ (Oper.mk _ (.load 41 _) _ _ _ _ :: _) _ _); refine ld_prg HP0.out (lst_ten u) rfl _ rfl rfl ?_)
        | (go_at_call 44; (with_reducible refine (CV.out _ HB0.out).mono ?_); rintro e1 w1 ⟨rfl, hb1⟩; obtain ⟨y0, y1, y2, y3, y4⟩ := (HR0.out.keep hb1).c5; have x8 : w1.cell? ⟨gp, 8, none⟩ = some (.slice u.RA _ u.rc) := ((HP0.out.keep hb1).2.1 8).trans (lst_eight HRN.out); have x0 : w1.cell? ⟨gp, 0, none⟩ = some (.int .i64 u.d.d0) := (HP0.out.keep hb1).2.1 0; have x1 : w1.cell? ⟨gp, 1, none⟩ = some (.int .i64 u.d.d1) := (HP0.out.keep hb1).2.1 1; have x2 : w1.cell? ⟨gp, 2, none⟩ = some (.int .i64 u.d.d2) := (HP0.out.keep hb1).2.1 2; have x3 : w1.cell? ⟨gp, 3, none⟩ = some (.int .i64 u.d.d3) := (HP0.out.keep hb1).2.1 3))
      go_ret
      exact ⟨by rw [HNO.out]; rfl, below_then HB0.out hb1⟩
end Go.Proofs.YtdiflpbioohddaaDoor
end
section
namespace Go.Proofs.YtdiflpbioohddaaDoor
open Go.RowKit
def RetMacO (w : World) (rn : Nat) (e : Ending) (w' : World) : Prop := ∃ (g0 g1 : Nat) (A5 : Option Addr) (c5 : Nat), e = .returned (.tuple #[.agg #[.slice (some ⟨g0, 0, none⟩) 8 8, .slice (some ⟨g1, 0, none⟩) 128 128, .slice A5 rn c5, .int .i64 0, .int .i64 0], .int .i64 0]) ∧ g0 ≠ g1 ∧
  Own w.heap.size w' (.slice (some ⟨g0, 0, none⟩) 8 8) (List.replicate 8 0) ∧ Own w.heap.size w' (.slice (some ⟨g1, 0, none⟩) 128 128) (List.replicate 128 0) ∧ Own w.heap.size w' (.slice A5 rn c5) (List.replicate rn 0) ∧ Below w.heap.size w w'
theorem own_cur {base g n c : Nat} {w : World} {l : List Int} (h : Own base w (.slice (some ⟨g, 0, none⟩) n c) l) : ∃ cur, w.heap[g]? = some (.cells cur 3 (0, 0)) ∧ cur.size = c := by
  rcases h.1.2 with ⟨e, -⟩ | ⟨q, cap, cur, e, hb, hg, hc, -, hs, ht⟩
  · cases e
  · injection e with e e4 e5
    injection e with e
    injection e with e
    subst e e5
    exact ⟨cur, hg, by omega⟩
theorem own_apart8 {base base' g0 g1 : Nat} {w : World} {l m : List Int} (h0 : Own base w (.slice (some ⟨g0, 0, none⟩) 8 8) l) (h1 : Own base' w (.slice (some ⟨g1, 0, none⟩) 128 128) m) : g0 ≠ g1 := fun e => by
  subst e
  obtain ⟨c0, a0, b0⟩ := own_cur h0
  obtain ⟨c1, a1, b1⟩ := own_cur h1
  rw [a0] at a1
  injection a1 with a1
  injection a1 with a1
  subst a1
  omega
def startG (B gp rn : Nat) (V : Value) : Nat → Value → World → Prop
  | 0, v, w => ∃ g, v = .slice (some ⟨g, 0, none⟩) 8 8 ∧ Own B w (.slice (some ⟨g, 0, none⟩) 8 8) (List.replicate 8 0)
  | 1, v, w => ∃ g, v = .slice (some ⟨g, 0, none⟩) 128 128 ∧ Own B w (.slice (some ⟨g, 0, none⟩) 128 128) (List.replicate 128 0)
  | 2, v, _ => v = .pointer (some ⟨gp, 8, none⟩)
  | 3, v, _ => v = V
  | 4, v, _ => v = .int .i64 (rn : Int)
  | 5, v, w => Own B w v (List.replicate rn 0)
  | 6, v, w => ∃ a b c, v = .agg #[.slice (some ⟨a, 0, none⟩) 8 8, .slice (some ⟨b, 0, none⟩) 128 128, c, .int .i64 0, .int .i64 0] ∧ Own B w (.slice (some ⟨a, 0, none⟩) 8 8) (List.replicate 8 0) ∧ Own B w (.slice (some ⟨b, 0, none⟩) 128 128) (List.replicate 128 0) ∧ Own B w c (List.replicate rn 0)
  | _, _, _ => False
theorem startG_keep {B gp rn : Nat} {V : Value} {w w' : World} (h : Below w.heap.size w w') : ∀ i v, startG B gp rn V i v w → startG B gp rn V i v w'
  | 0, _, ⟨g, e, h1⟩ | 1, _, ⟨g, e, h1⟩ => ⟨g, e, h1.grow h⟩
  | 5, _, e => Own.grow e h
  | 2, _, e | 3, _, e | 4, _, e => e
  | 6, _, ⟨a, b, c, e, h1, h2, h3⟩ => ⟨a, b, c, e, h1.grow h, h2.grow h, h3.grow h⟩
  | n + 7, _, e => e.elim
set_option maxRecDepth 100000 in
theorem copy_part {ops : Array Oper} {rest : List Oper} {o : Oper} {a : Act} {Q : Exit → Act → World → Prop} {w : World} (hgd : o.guard = none) (d s : Operand) (ho : o.op = .call { callee := .builtin .copy, args := #[d, s], argTypes := #[25, 25] })
    {base g m n c : Nat} {z l : List Int} {A : Option Addr} (hd : a.eval d = .slice (some ⟨g, 0, none⟩) m m) (hs : a.eval s = .slice A n c) (hown : Own base w (.slice (some ⟨g, 0, none⟩) m m) z) (hz : z.length = m) (hI : Ints w A l) (hl : l.length = n) (hn : n ≤ m)
    (h : ∀ w', Own base w' (.slice (some ⟨g, 0, none⟩) m m) (l ++ z.drop n) → w.grownBy w' (some g) → wpList Tryd.prog ops Q rest (a.put o.dst (.int .i64 n)) w') : wpList Tryd.prog ops Q (o :: rest) a w := by
  subst hl
  have hu := Tryd.underlying25
  have hsz : (Tryd.prog.info? 3).map (·.size) = some 1 := by kernel_rfl
  have h0 := hown
  obtain ⟨⟨hlen, hrow⟩, hall⟩ := hown
  rcases hrow with ⟨e, _⟩ | ⟨g', cap, cur, e, hbg, hg, hnc, hcm, hcs, htake⟩
  · cases e
  · injection e with e1 e2 e3
    injection e1 with e1
    injection e1 with e1
    subst e1 e3
    cases l with
    | nil =>
      refine wpList_copy_nothing hgd d s _ _ ho 3 hu hsz _ _ _ _ _ _ hd hs (by simp) ?_
      exact h w (by simpa using h0) (grown_refl w _)
    | cons y t =>
      obtain ⟨ad, _, rfl, _⟩ := hI.at_ (k := 0) (by simp)
      refine wpList_copy_own hgd d s _ _ ho 3 hu hsz g 0 _ _ ad _ _ hd hs cur 3 hg ((y :: t).map (Value.int .i64)) (by rw [List.length_map]; simp only [Nat.min_def]; split <;> omega) (fun j v hv => ?_) (by rw [List.length_map]; omega) (fun v hv => ?_) ?_
      · obtain ⟨ad', e', _, hc⟩ := hI.1 j v hv
        injection e' with e'; subst e'; exact hc
      · obtain ⟨q, _, rfl⟩ := List.mem_map.1 hv; rfl
      · have hct : cur.toList = z.map (Value.int .i64) := by rw [← htake, List.take_of_length_le (by rw [Array.length_toList]; omega)]
        have hcur : (cur.toList.take 0 ++ ((y :: t).map (Value.int .i64) ++ cur.toList.drop (0 + ((y :: t).map (Value.int .i64)).length))) = ((y :: t) ++ z.drop (y :: t).length).map (Value.int .i64) := by
          rw [hct, List.take_zero, List.nil_append, Nat.zero_add, List.length_map, List.map_append, List.map_drop]
        rw [hcur]
        have e3 : goInt ((y :: t).map (Value.int .i64)).length = .int .i64 ((y :: t).length : Nat) := by rw [List.length_map]; rfl
        rw [e3]
        have hll : ((y :: t) ++ z.drop (y :: t).length).length = m := by rw [List.length_append, List.length_drop]; omega
        refine h _ ⟨⟨by rw [List.length_map]; omega, .inr ⟨g, _, (((y :: t) ++ z.drop (y :: t).length).map (Value.int .i64)).toArray, by rw [hll], hbg, setRow_heap w g _ _ _ _ hg, by omega, hcm, by rw [List.size_toArray, List.length_map]; omega, ?_⟩⟩, fun x hx => ?_⟩ ⟨rfl, rfl, rfl, by simp [World.setRow], fun k _ hk => setRow_other w g k _ (fun e => hk (by rw [e]))⟩
        · exact List.take_of_length_le (by rw [List.length_map]; omega)
        · rcases List.mem_append.1 hx with hx | hx
          · exact hI.2 x hx
          · exact hall x (List.mem_of_mem_drop hx)
set_option maxRecDepth 100000 in
set_option maxHeartbeats 4000000 in
theorem sm_StartO (u : PrgA) (w : World) (hf : FormsAt w) (hp : PrgAt w u) (hr9 : u.d.rg.length ≤ 9223372036854775807) (hc9 : u.d.code.length ≤ 9223372036854775807) (hv : validB u.d = true) : Calls Tryd.prog 41 #[u.v] w (RetMacO w u.d.rg.length) := by
  obtain ⟨V, hV⟩ : ∃ b, validB u.d = b := ⟨_, rfl⟩
  have hVt : V = true := hV.symm.trans hv
  have CV : Hid (∀ w1, Below w.heap.size w w1 → Calls Tryd.prog 39 #[.agg u.lst.toArray] w1 fun e w' => e = .returned (.bool V) ∧ Below w1.heap.size w1 w') := Lib.hid fun w1 hb => by have h := pr_Valid u w1 (hf.grow hb) (hp.grow hb) hr9 hc9 hV; unfold PrgA.v at h; exact h
  have ev : u.v = .agg u.lst.toArray := rfl
  rw [ev]
  obtain ⟨rn, hrn⟩ : ∃ k, u.d.rg.length = k := ⟨_, rfl⟩
  have hrl : V = true → rn ≤ 8 := fun e => by rw [← hrn]; exact (valid_rl (hV.trans e)).1
  have HRN := Lib.hid hrn
  have HV := Lib.hid hV
  clear ev hp hrn hV hr9 hc9
  go_enter Tryd.func41, Tryd.ntmps41
  go_upto_region 1 with fail
  obtain ⟨bp, br, hb0⟩ := entryPM w u.lst zeros5 _ rfl
  change Code.wp _ _ _ _ ((w.alloc (.cells u.lst.toArray 41)).alloc (.cells zeros5.toArray 32))
  generalize ((w.alloc (.cells u.lst.toArray 41)).alloc (.cells zeros5.toArray 32)) = W0 at bp br hb0 ⊢
  have HB0 := Lib.hid hb0
  have HP0 := Lib.hid bp
  have HR0 := Lib.hid br
  clear hb0 bp br
  obtain ⟨dsc, hd1, hd2⟩ := row_mac
  subst hVt
  have hr8 := hrl rfl
  clear hrl
  go_upto_region 3 with (first
    | ((with_reducible show wpList _ _ _ (Oper.mk _ (.load 41 _) _ _ _ _ :: _) _ _); refine ld_prg HP0.out (lst_ten u) rfl _ rfl rfl ?_)
    | (go_at_call 39; (with_reducible refine (CV.out _ HB0.out).mono ?_); rintro e1 w1 ⟨rfl, hb1⟩))
  have HB1 := Lib.hid (below_then HB0.out hb1)
  have HP1 := Lib.hid (HP0.out.keep hb1)
  have HR1 := Lib.hid (HR0.out.keep hb1)
  clear hb1 HB0 HP0 HR0 CV
  obtain ⟨B, hB⟩ : ∃ B, w.heap.size + 2 = B := ⟨_, rfl⟩
  have HBE := Lib.hid hB
  have HBW : Hid (B ≤ w1.heap.size) := by have := HR1.out.1; rw [← hB]; exact Lib.hid (by omega)
  clear hB
  refine wp_region_grow 7 (fun w' => Below w1.heap.size w1 w') (fun a b => Below a.heap.size a b) (startG B w.heap.size rn (.slice u.RA rn u.rc)) (by kernel_rfl) (by kernel_rfl) (Below.refl _ _).drew (fun a b h1 h2 => ⟨below_then h1 h2, fun i _ v => startG_keep h2 i v⟩) ?_ ?_
  · refine ⟨?_, ?_, ?_, ?_, ?_, ?_, ?_, trivial⟩
    · intro vs w5 hC hF
      simp [stL, depsB, Region.binds, Act.put]
      refine mk_int rfl _ _ rfl w5.heap.size 8 rfl rfl rfl (by decide) (Nat.le_refl _) ?_
      intro w6 ho6 hb6
      exact wpList_nil ⟨rfl, _, rfl, ⟨_, rfl, ho6.base (by have := HBW.out; have := hC.size; omega)⟩, hb6⟩
    · intro vs w5 hC hF
      simp [stL, depsB, Region.binds, Act.put]
      refine mk_int rfl _ _ rfl w5.heap.size 128 rfl rfl rfl (by decide) (Nat.le_refl _) ?_
      intro w6 ho6 hb6
      exact wpList_nil ⟨rfl, _, rfl, ⟨_, rfl, ho6.base (by have := HBW.out; have := hC.size; omega)⟩, hb6⟩
    · intro vs w5 hC hF
      simp [stL, depsB, Region.binds, Act.put]
      go_wp2_with fail
      exact ⟨rfl, Below.refl _ _⟩
    · intro vs w5 hC hF
      have x8 : w5.cell? ⟨w.heap.size, 8, none⟩ = some (.slice u.RA rn u.rc) := ((HP1.out.keep hC).2.1 8).trans (lst_eight HRN.out)
      have e2 : vs 2 = .pointer (some ⟨w.heap.size, 8, none⟩) := hF 2 (by decide)
      simp [stL, depsB, Region.binds, Act.put, e2]
      go_wp2_with fail
      exact ⟨rfl, Below.refl _ _⟩
    · intro vs w5 hC hF
      have e3 : vs 3 = .slice u.RA rn u.rc := hF 3 (by decide)
      simp [stL, depsB, Region.binds, Act.put, e3]
      go_wp2_with fail
      exact ⟨rfl, Below.refl _ _⟩
    · intro vs w5 hC hF
      have e4 : vs 4 = .int .i64 (rn : Int) := hF 4 (by decide)
      simp [stL, depsB, Region.binds, Act.put, e4]
      refine mk_int rfl _ _ rfl w5.heap.size rn rfl rfl rfl (by omega) (Nat.le_refl _) ?_
      intro w6 ho6 hb6
      exact wpList_nil ⟨rfl, _, rfl, ho6.base (by have := HBW.out; have := hC.size; omega), hb6⟩
    · intro vs w5 hC hF
      obtain ⟨g0, e0, h0⟩ : ∃ g, vs 0 = .slice (some ⟨g, 0, none⟩) 8 8 ∧ Own B w5 (.slice (some ⟨g, 0, none⟩) 8 8) (List.replicate 8 0) := hF 0 (by decide)
      obtain ⟨g1, e1, h1⟩ : ∃ g, vs 1 = .slice (some ⟨g, 0, none⟩) 128 128 ∧ Own B w5 (.slice (some ⟨g, 0, none⟩) 128 128) (List.replicate 128 0) := hF 1 (by decide)
      have h5 : Own B w5 (vs 5) (List.replicate rn 0) := hF 5 (by decide)
      obtain ⟨A5, c5, e5, -⟩ := own_form h5.1
      rw [e5] at h5
      simp only [List.length_replicate] at e5 h5
      simp [stL, depsB, Region.binds, Act.put, e0, e1, e5]
      refine wp_bldR rfl 32 _ rfl _ rfl (built_mac3 (some ⟨g0, 0, none⟩) (some ⟨g1, 0, none⟩) A5 _ 8 _ 128 _ c5) ?_
      exact wpList_nil ⟨rfl, _, rfl, ⟨_, _, _, rfl, h0, h1, h5⟩, Below.refl _ _⟩
  intro vs w5 hC hF
  obtain ⟨g0, g1, c, e6, h0, h1, h5⟩ := hF 6 (by decide)
  obtain ⟨A5, c5, rfl, -⟩ := own_form h5.1
  simp only [List.length_replicate] at e6 h5
  show wpList Tryd.prog _ _ [_, _] _ _
  simp [stL, Act.put, e6]
  clear hF e6
  refine st_mac (L := [.slice (some ⟨g0, 0, none⟩) 8 8, .slice (some ⟨g1, 0, none⟩) 128 128, .slice A5 rn c5, .int .i64 0, .int .i64 0]) (HR1.out.keep hC) rfl rfl rfl rfl _ _ rfl rfl rfl ?_
  intro w9 hb9 hg9
  have HB9 := Lib.hid (grown_toI (below_then HB1.out hC) hg9 (by omega))
  have hgB : w.heap.size + 1 < B := by have := HBE.out; omega
  have O0 := Lib.hid (own_setsI h0.1 hg9 hgB)
  have O1 := Lib.hid (own_setsI h1.1 hg9 hgB)
  have O5 := Lib.hid (own_setsI h5.1 hg9 hgB)
  have HZ : Hid (∀ n, ∀ x ∈ List.replicate n (0 : Int), I64 x) := Lib.hid fun n x hx => by rw [(List.mem_replicate.1 hx).2]; unfold I64; omega
  clear h0 h1 h5 hg9 hgB hC
  go_wp2_with fail
  refine bodyPost_ret (resCT rfl _ _ w9 (g := w.heap.size + 1) (v := .agg [.slice (some ⟨g0, 0, none⟩) 8 8, .slice (some ⟨g1, 0, none⟩) 128 128, .slice A5 rn c5, .int .i64 0, .int .i64 0].toArray) rfl (res_box _ hb9 dsc hd1 hd2 size_mac)) rfl ?_
  have i0 : Own B w9 (.slice (some ⟨g0, 0, none⟩) 8 8) (List.replicate 8 0) := ⟨O0.out, HZ.out 8⟩
  have i1 : Own B w9 (.slice (some ⟨g1, 0, none⟩) 128 128) (List.replicate 128 0) := ⟨O1.out, HZ.out 128⟩
  have i5 : Own B w9 (.slice A5 rn c5) (List.replicate rn 0) := ⟨O5.out, HZ.out rn⟩
  rw [HRN.out]
  exact ⟨g0, g1, A5, c5, rfl, own_apart8 i0 i1, i0.base (by have := HBE.out; omega), i1.base (by have := HBE.out; omega), i5.base (by have := HBE.out; omega), HB9.out⟩
end Go.Proofs.YtdiflpbioohddaaDoor
end
