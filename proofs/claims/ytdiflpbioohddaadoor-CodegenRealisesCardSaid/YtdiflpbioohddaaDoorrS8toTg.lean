/- Several texts in one: S8 S9 S11 Tg. -/
import Derived.Test.YtdiflpbioohddaaDoorrS7
import Derived.Test.YtdiflpbioohddaaDoorrE31toE30
import Derived.Test.YtdiflpbioohddaaDoorrS1toE21
import Derived.Test.YtdiflpbioohddaaDoorrS5
import Derived.Test.YtdiflpbioohddaaDoorrU2toCr
import Derived.Test.YtdiflpbioohddaaDoorrJ
import Derived.Laws.CopyOwn
set_option linter.unusedVariables false
set_option linter.unusedSimpArgs false
section
namespace Go.Proofs.YtdiflpbioohddaaDoor
open Go.RowKit
def rcC (w : World) (gp cn : Nat) (L : List Value) (d : PrgD) (x : Value) (wr : World) : Prop :=
  ∃ k : Nat, k ≤ cn ∧ x = .int .i64 k ∧ Hid (Below w.heap.size w wr) ∧ Hid (Box wr gp L) ∧ Hid (∀ j, j < k → goodAt d j = true)
set_option maxRecDepth 100000 in
set_option maxHeartbeats 8000000 in
theorem r38_Check (u : PrgA) (w : World) (hp : PrgAt w u) (hr9 : u.d.rg.length ≤ 9223372036854775807) (hc9 : u.d.code.length ≤ 9223372036854775807) :
    Calls Tryd.prog 76 #[u.v] w (RetChk w u.d) := by
  obtain ⟨⟨d0, d1, d2, d3, c0, c1, c2, c3, rg, code⟩, RA, CA, rc, cc⟩ := u
  obtain ⟨hra, hca⟩ := hp
  simp only at hra hca hr9 hc9
  obtain ⟨rn, hrn⟩ : ∃ n, rg.length = n := ⟨_, rfl⟩
  obtain ⟨cn, hcn⟩ : ∃ n, code.length = n := ⟨_, rfl⟩
  obtain ⟨PD, hPD⟩ : ∃ x : PrgD, x = ⟨d0, d1, d2, d3, c0, c1, c2, c3, rg, code⟩ := ⟨_, rfl⟩
  have hgoal : Calls Tryd.prog 76 #[.agg #[.int .i64 d0, .int .i64 d1, .int .i64 d2, .int .i64 d3, .int .i64 c0, .int .i64 c1, .int .i64 c2, .int .i64 c3, .slice RA rn rc, .slice CA cn cc]] w (RetChk w PD) →
      Calls Tryd.prog 76 #[PrgA.v ⟨⟨d0, d1, d2, d3, c0, c1, c2, c3, rg, code⟩, RA, CA, rc, cc⟩] w (RetChk w (PrgA.d ⟨⟨d0, d1, d2, d3, c0, c1, c2, c3, rg, code⟩, RA, CA, rc, cc⟩)) := fun h => by
    unfold PrgA.v PrgA.lst
    simp only [hrn, hcn]
    rw [← hPD]
    exact h
  refine hgoal ?_
  clear hgoal
  rw [hrn] at hr9
  rw [hcn] at hc9
  obtain ⟨oD, hoD⟩ : ∃ c, okW d0 d1 d2 d3 = c := ⟨_, rfl⟩
  obtain ⟨oC, hoC⟩ : ∃ c, okW c0 c1 c2 c3 = c := ⟨_, rfl⟩
  have HV : Hid (okWD PD = (oD && oC)) := by rw [hPD]; unfold okWD; simp only; rw [hoD, hoC]; exact Lib.hid rfl
  have HD := Lib.hid hoD
  have HC := Lib.hid hoC
  have HRA := Lib.hid hra
  have HCA := Lib.hid hca
  have HRN := Lib.hid hrn
  have HCN := Lib.hid hcn
  have HPD := Lib.hid hPD
  have HRG : Hid (PD.rg = rg) := by rw [hPD]; exact Lib.hid rfl
  have HCO : Hid (PD.code = code) := by rw [hPD]; exact Lib.hid rfl
  clear hoD hoC hra hca hrn hcn hPD
  cases oD with
  | false =>
    go_enter Tryd.func76, Tryd.ntmps76
    go_wp2_with (go_at_call 31; (with_reducible refine (rf_Valid_is HD.out _).mono ?_); rintro e1 w1 ⟨rfl, hb1⟩)
    go_ret2
    exact RetChk.mk (chk_words HV.out) (((Below.refl _ _).alloc (Nat.le_refl _) _).trans (hb1.mono (by simp)))
  | true =>
    go_enter Tryd.func76, Tryd.ntmps76
    go_upto_region 1 with fail
    obtain ⟨bp, hb0⟩ := entryP w [.int .i64 d0, .int .i64 d1, .int .i64 d2, .int .i64 d3, .int .i64 c0, .int .i64 c1, .int .i64 c2, .int .i64 c3, .slice RA rn rc, .slice CA cn cc] _ rfl
    change Code.wp _ _ _ _ (w.alloc (.cells [.int .i64 d0, .int .i64 d1, .int .i64 d2, .int .i64 d3, .int .i64 c0, .int .i64 c1, .int .i64 c2, .int .i64 c3, .slice RA rn rc, .slice CA cn cc].toArray 41))
    generalize (w.alloc (.cells [.int .i64 d0, .int .i64 d1, .int .i64 d2, .int .i64 d3, .int .i64 c0, .int .i64 c1, .int .i64 c2, .int .i64 c3, .slice RA rn rc, .slice CA cn cc].toArray 41)) = W0 at bp hb0 ⊢
    have HB0 := Lib.hid hb0
    obtain ⟨⟨x0, x1, x2, x3⟩, ⟨x4, x5, x6, x7⟩, x8, x9⟩ := bp.c10
    have HBP0 := Lib.hid bp
    clear hb0 bp
    generalize hgp : w.heap.size = gp at HBP0 x0 x1 x2 x3 x4 x5 x6 x7 x8 x9 ⊢
    have HGP := Lib.hid hgp
    clear hgp
    obtain ⟨L, hL⟩ : ∃ L : List Value, [.int .i64 d0, .int .i64 d1, .int .i64 d2, .int .i64 d3, .int .i64 c0, .int .i64 c1, .int .i64 c2, .int .i64 c3, .slice RA rn rc, .slice CA cn cc] = L := ⟨_, rfl⟩
    rw [hL] at HBP0
    have HL := Lib.hid hL
    clear hL
    cases oC with
    | false =>
      go_wp2_with (go_at_call 31; (first
        | ((with_reducible refine (rf_Valid_is HD.out _).mono ?_); rintro e1 w1 ⟨rfl, hb1⟩; have hk1 := HBP0.out.keep hb1; rw [← HL.out] at hk1; obtain ⟨⟨x0, x1, x2, x3⟩, ⟨x4, x5, x6, x7⟩, x8, x9⟩ := hk1.c10)
        | ((with_reducible refine (rf_Valid_is HC.out _).mono ?_); rintro e1 w2 ⟨rfl, hb2⟩)))
      go_ret2
      exact RetChk.mk (chk_words HV.out) (below_then (below_then HB0.out hb1) hb2)
    | true =>
      go_upto_region 3 with (go_at_call 31; (first
        | ((with_reducible refine (rf_Valid_is HD.out _).mono ?_); rintro e1 w1 ⟨rfl, hb1⟩; have hk1 := HBP0.out.keep hb1; rw [← HL.out] at hk1; obtain ⟨⟨x0, x1, x2, x3⟩, ⟨x4, x5, x6, x7⟩, x8, x9⟩ := hk1.c10)
        | ((with_reducible refine (rf_Valid_is HC.out _).mono ?_); rintro e1 w2 ⟨rfl, hb2⟩)))
      have HB2 := Lib.hid (below_then (below_then HB0.out hb1) hb2)
      have HBP2 := Lib.hid ((HBP0.out.keep hb1).keep hb2)
      have hk2 := HBP2.out
      rw [← HL.out] at hk2
      obtain ⟨⟨x0, x1, x2, x3⟩, ⟨x4, x5, x6, x7⟩, x8, x9⟩ := hk2.c10
      clear hb1 hb2 hk1 hk2 HBP0 HB0
      have HV1 : Hid (okWD PD = true) := HV
      obtain ⟨bR, hbR⟩ : ∃ c, ringsB rg = c := ⟨_, rfl⟩
      have HRB : Hid (ringsB PD.rg = bR) := by rw [HRG.out, hbR]; exact Lib.hid rfl
      have CRG : Hid (Calls Tryd.prog 103 #[.slice RA rn rc] w2 fun e w' => e = .returned (.bool bR) ∧ Below w2.heap.size w2 w') := by
        rw [← hbR]; exact Lib.hid (r38_rings RA rn rc rg w2 (HRA.out.grow HB2.out) HRN.out hr9)
      clear hbR
      cases bR with
      | false =>
        go_wp2_with (go_at_call 103; (with_reducible refine CRG.out.mono ?_); rintro e1 w3 ⟨rfl, hb3⟩)
        go_ret2
        exact RetChk.mk (chk_rings HV1.out HRB.out) (below_then HB2.out hb3)
      | true =>
        go_upto_region 5 with (go_at_call 103; (with_reducible refine CRG.out.mono ?_); rintro e1 w3 ⟨rfl, hb3⟩)
        have HB3 := Lib.hid (below_then HB2.out hb3)
        have HBP3 := Lib.hid (HBP2.out.keep hb3)
        have hk3 := HBP3.out
        rw [← HL.out] at hk3
        obtain ⟨⟨x0, x1, x2, x3⟩, ⟨x4, x5, x6, x7⟩, x8, x9⟩ := hk3.c10
        clear hb3 hk3 HB2 HBP2 CRG
        have HRALL : Hid (rn ≤ 8 ∧ ∀ x ∈ rg, ringIn x = true) := by
          have h := HRB.out
          rw [HRG.out] at h
          unfold ringsB at h
          rw [Bool.and_eq_true, decide_eq_true_eq, HRN.out] at h
          have h2 := ringsK_all h.2 (by rw [HRN.out]; exact Nat.le_refl _)
          rw [List.take_of_length_le (by rw [HRN.out]; exact Nat.le_refl _)] at h2
          exact Lib.hid ⟨h.1, h2⟩
        obtain ⟨bN, hbN⟩ : ∃ c, inB (cn : Int) 1 512 = c := ⟨_, rfl⟩
        have HIN : Hid (inB PD.code.length 1 512 = bN) := by rw [HCO.out, HCN.out, hbN]; exact Lib.hid rfl
        have HBN := Lib.hid hbN
        have hcl : bN = true → 1 ≤ cn ∧ cn ≤ 512 := fun e => by
          rw [e] at hbN
          have := inB_iff.1 hbN
          omega
        clear hbN
        cases bN with
        | false =>
          clear hcl
          go_wp2_with (go_at_call 32; (with_reducible refine (in_is HBN.out _).mono ?_); rintro e1 w4 ⟨rfl, rfl⟩)
          go_ret2
          exact RetChk.mk (chk_many HV1.out HRB.out HIN.out) HB3.out
        | true =>
          have hcl := hcl rfl
          go_wp2_with (go_at_call 32; (with_reducible refine (in_is HBN.out _).mono ?_); rintro e1 w4 ⟨rfl, rfl⟩)
          clear x0 x1 x2 x3 x4 x5 x6 x7 x8 x9
          go_loopw [4] (fun x wx => rcC w gp cn L PD x wx) (fun x _ => cn - (intOf x).toNat)
          case atStart => exact ⟨0, Nat.zero_le _, rfl, HB3, HBP3, Lib.hid fun j hj => by omega⟩
          case round =>
            obtain ⟨j, hj, rfl, HBj, HBPj, HGO⟩ := hrel
            have hk3 := HBPj.out
            rw [← HL.out] at hk3
            have x9 := hk3.c10.2.2.2
            by_cases hjc : j < cn
            · obtain ⟨i, hi⟩ : ∃ i, code[j]? = some i := ⟨_, List.getElem?_eq_getElem (by rw [HCN.out]; exact hjc)⟩
              obtain ⟨ad, hCA, hs, hb, hr, hok⟩ := (HCA.out.grow HBj.out) j i hi
              subst hCA
              have HGI : Hid (PD.code.getD j Ins.zero = i) := by rw [HCO.out, List.getD_eq_getElem?_getD, hi]; exact Lib.hid rfl
              have HS := Lib.hid hs
              have HR := Lib.hid hr
              have HBLK := Lib.hid hb
              have HOK := Lib.hid hok
              have HBPQ := Lib.hid hk3
              have e9 := hk3.ext (k := 9) (v := .slice (some ad) cn cc) rfl
              obtain ⟨z0, -, -, -⟩ := ins_cells hs hr
              have hzb : (ad.add (j * 4)).block < wr.heap.size := by rw [block_add]; exact hb
              have e0 : ∀ n : Ext wr, n.to.cell? (ad.add (j * 4)) = some (.int .i64 i.op) := fun n => (n.below.cell hzb).trans z0
              have c1' : (0 : Int) ≤ (j : Int) := by omega
              have c2' : (j : Int) < (cn : Int) := by omega
              have wj : IntKind.i64.wrap ((j : Int) + 1) = ((j + 1 : Nat) : Int) := (IntWalk.i64_in _ (by omega)).trans (by omega)
              have wcn : IntKind.i64.wrap ((cn : Int) - 1) = ((cn - 1 : Nat) : Int) := (IntWalk.i64_in _ (by omega)).trans (by omega)
              clear hi hs hb hr hok hk3 z0 hzb
              obtain ⟨bl, hbl⟩ : ∃ c, decide (j = cn - 1) = c := ⟨_, rfl⟩
              have HLAST : Hid (decide (j + 1 = PD.code.length) = bl) := by
                rw [HCO.out, HCN.out, ← hbl]
                exact Lib.hid (decide_eq_decide.2 (by omega))
              have hbl2 : decide ((j : Int) = ((cn - 1 : Nat) : Int)) = bl := by rw [← hbl]; exact decide_eq_decide.2 (by omega)
              have hbl3 : ((j : Int) == ((cn - 1 : Nat) : Int)) = bl := hbl2
              obtain ⟨cn1, hcn1⟩ : ∃ x : Nat, cn - 1 = x := ⟨_, rfl⟩
              rw [hcn1] at wcn hbl hbl2 hbl3
              have hbl4 : (j == cn1) = bl := hbl
              clear hcn1
              obtain ⟨s, hs⟩ : ∃ s, i.formed = s := ⟨_, rfl⟩
              obtain ⟨b0, hb0⟩ : ∃ c, decide (i.op = 0) = c := ⟨_, rfl⟩
              have hb1 : (i.op == 0) = b0 := hb0
              have CFm : Hid (∀ n : Ext wr, Calls Tryd.prog 104 #[i.v] n.to fun e w' => e = .returned (.bool s) ∧ Below n.to.heap.size n.to w') := Lib.hid fun n => by rw [← hs]; exact r38_Formed i n.to HOK.out
              have HSF := Lib.hid hs
              have HB0' := Lib.hid hb0
              clear hs hb0
              have hq : goodAt PD j = ((s && fitI PD i) && (b0 == bl)) := by
                unfold goodAt suitB
                rw [HGI.out, HSF.out, HB0'.out, HLAST.out]
              cases s with
              | false =>
                have HGD : Hid (goodAt PD j = false) := by rw [hq]; exact Lib.hid rfl
                clear hq
                go_upto_region 10 with fail
                refine wp_region_ext (by kernel_rfl) (by kernel_rfl) ?_
                repeat (first
                  | ((with_reducible show wpQuiet _ _ _ _ (Oper.mk (some 38) (.load 109 _) _ _ _ _ :: _) _); refine qld_insA HS.out HBLK.out HR.out rfl (Operand.tmp 37) rfl rfl ?_; simp [Act.put])
                  | ((with_reducible show wpQuiet _ _ _ _ (Oper.mk (some 47) (.load 109 _) _ _ _ _ :: _) _); refine qld_insA HS.out HBLK.out HR.out rfl (Operand.tmp 46) rfl rfl ?_; simp [Act.put])
                  | ((with_reducible show wpQuiet _ _ _ _ (Oper.mk (some 42) (.load 41 _) _ _ _ _ :: _) _); refine qld_prg HBPQ.out rfl rfl (Operand.tmp 1) rfl rfl ?_; simp [Act.put])
                  | (go_big_quiet_step (first | (go_at_call 104; exact ext_below (CFm.out _)))))
                refine wpQuiet_nil ?_
                rintro ⟨w3, hb3⟩
                dsimp only
                go_wp2_with fail
                go_ret2
                exact RetChk.mk (chk_at HV1.out HRB.out HIN.out (k := j) (by rw [HCO.out, HCN.out]; exact hjc) HGO.out HGD.out) (below_then HBj.out hb3)
              | true =>
                obtain ⟨ff, hff⟩ : ∃ c, fitI PD i = c := ⟨_, rfl⟩
                rw [hff] at hq
                have CS : Hid (∀ n : Ext wr, Calls Tryd.prog 105 #[.agg #[.int .i64 d0, .int .i64 d1, .int .i64 d2, .int .i64 d3, .int .i64 c0, .int .i64 c1, .int .i64 c2, .int .i64 c3, .slice RA rn rc, .slice (some ad) cn cc], i.v] n.to fun e w' => e = .returned (.bool ff) ∧ Below n.to.heap.size n.to w') := Lib.hid fun n => by
                  have hw1 := HBj.out.trans (n.below.mono HBj.out.size)
                  have h := r38_fits ⟨⟨d0, d1, d2, d3, c0, c1, c2, c3, rg, code⟩, RA, some ad, rc, cc⟩ i n.to HSF.out (HRA.out.grow hw1) (by simp only; rw [HRN.out]; exact HRALL.out.1) HRALL.out.2 HC.out ff (by rw [← hff, HPD.out])
                  unfold PrgA.v PrgA.lst at h
                  simp only [HRN.out, HCN.out] at h
                  exact h
                clear hff
                cases ff with
                | false =>
                  have HGD : Hid (goodAt PD j = false) := by rw [hq]; exact Lib.hid rfl
                  clear hq
                  go_upto_region 10 with fail
                  refine wp_region_ext (by kernel_rfl) (by kernel_rfl) ?_
                  repeat (first
                    | ((with_reducible show wpQuiet _ _ _ _ (Oper.mk (some 38) (.load 109 _) _ _ _ _ :: _) _); refine qld_insA HS.out HBLK.out HR.out rfl (Operand.tmp 37) rfl rfl ?_; simp [Act.put])
                    | ((with_reducible show wpQuiet _ _ _ _ (Oper.mk (some 47) (.load 109 _) _ _ _ _ :: _) _); refine qld_insA HS.out HBLK.out HR.out rfl (Operand.tmp 46) rfl rfl ?_; simp [Act.put])
                    | ((with_reducible show wpQuiet _ _ _ _ (Oper.mk (some 42) (.load 41 _) _ _ _ _ :: _) _); refine qld_prg HBPQ.out rfl rfl (Operand.tmp 1) rfl rfl ?_; simp [Act.put])
                    | (go_big_quiet_step (first | (go_at_call 104; exact ext_below (CFm.out _)) | (go_at_call 105; exact ext_below (CS.out _)))))
                  refine wpQuiet_nil ?_
                  rintro ⟨w3, hb3⟩
                  dsimp only
                  go_wp2_with fail
                  go_ret2
                  exact RetChk.mk (chk_at HV1.out HRB.out HIN.out (k := j) (by rw [HCO.out, HCN.out]; exact hjc) HGO.out HGD.out) (below_then HBj.out hb3)
                | true =>
                  have HQ := Lib.hid hq
                  clear hq
                  go_upto_region 10 with fail
                  refine wp_region_ext (by kernel_rfl) (by kernel_rfl) ?_
                  repeat (first
                    | ((with_reducible show wpQuiet _ _ _ _ (Oper.mk (some 38) (.load 109 _) _ _ _ _ :: _) _); refine qld_insA HS.out HBLK.out HR.out rfl (Operand.tmp 37) rfl rfl ?_; simp [Act.put])
                    | ((with_reducible show wpQuiet _ _ _ _ (Oper.mk (some 47) (.load 109 _) _ _ _ _ :: _) _); refine qld_insA HS.out HBLK.out HR.out rfl (Operand.tmp 46) rfl rfl ?_; simp [Act.put])
                    | ((with_reducible show wpQuiet _ _ _ _ (Oper.mk (some 42) (.load 41 _) _ _ _ _ :: _) _); refine qld_prg HBPQ.out rfl rfl (Operand.tmp 1) rfl rfl ?_; simp [Act.put])
                    | (go_big_quiet_step (first | (go_at_call 104; exact ext_below (CFm.out _)) | (go_at_call 105; exact ext_below (CS.out _)))))
                  refine wpQuiet_nil ?_
                  rintro ⟨w3, hb3⟩
                  dsimp only
                  cases b0 with
                  | true =>
                    cases bl with
                    | true =>
                      have HGD : Hid (goodAt PD j = true) := HQ.out
                      go_wp2_with fail
                      go_roundw
                      case rel => exact ⟨j + 1, by omega, by go_num, Lib.hid (below_then HBj.out hb3), Lib.hid (HBPj.out.keep hb3), Lib.hid fun t ht => by
                        by_cases e : t = j
                        · rw [e]; exact HGD.out
                        · exact HGO.out t (by omega)⟩
                      case measure => simp [intOf]; omega
                    | false =>
                      have HGD : Hid (goodAt PD j = false) := HQ.out
                      go_wp2_with fail
                      go_ret2
                      exact RetChk.mk (chk_at HV1.out HRB.out HIN.out (k := j) (by rw [HCO.out, HCN.out]; exact hjc) HGO.out HGD.out) (below_then HBj.out hb3)
                  | false =>
                    cases bl with
                    | true =>
                      have HGD : Hid (goodAt PD j = false) := HQ.out
                      go_wp2_with fail
                      go_ret2
                      exact RetChk.mk (chk_at HV1.out HRB.out HIN.out (k := j) (by rw [HCO.out, HCN.out]; exact hjc) HGO.out HGD.out) (below_then HBj.out hb3)
                    | false =>
                      have HGD : Hid (goodAt PD j = true) := HQ.out
                      go_wp2_with fail
                      go_roundw
                      case rel => exact ⟨j + 1, by omega, by go_num, Lib.hid (below_then HBj.out hb3), Lib.hid (HBPj.out.keep hb3), Lib.hid fun t ht => by
                        by_cases e : t = j
                        · rw [e]; exact HGD.out
                        · exact HGO.out t (by omega)⟩
                      case measure => simp [intOf]; omega
            · obtain rfl : j = cn := by omega
              clear hk3
              go_wp2_with fail
              go_ret2
              exact RetChk.mk (chk_ok HV1.out HRB.out HIN.out (by rw [HCO.out, HCN.out]; exact HGO.out)) HBj.out
end Go.Proofs.YtdiflpbioohddaaDoor
end
section
namespace Go.Proofs.YtdiflpbioohddaaDoor
open Go.RowKit
set_option maxRecDepth 100000 in
theorem r38_Valid (u : PrgA) (w : World) (hp : PrgAt w u) (hr9 : u.d.rg.length ≤ 9223372036854775807) (hc9 : u.d.code.length ≤ 9223372036854775807) {c : Bool} (hc : validB u.d = c) :
    Calls Tryd.prog 44 #[u.v] w fun e w' => e = .returned (.bool c) ∧ Below w.heap.size w w' := by
  have CC : Hid (∀ w1, Below w.heap.size w w1 → Calls Tryd.prog 76 #[.agg u.lst.toArray] w1 (RetChk w1 u.d)) := Lib.hid fun w1 hb => by
    have h := r38_Check u w1 (hp.grow hb) hr9 hc9
    unfold PrgA.v at h
    exact h
  have hcv := chk_valid u.d
  rw [hc] at hcv
  obtain ⟨a, b, hab⟩ : ∃ a b : Int, chkF u.d = (a, b) := ⟨_, _, rfl⟩
  rw [hab] at hcv
  have hbc : (b == 0) = c := hcv
  have HAB := Lib.hid hab
  clear hcv hc hp hab
  go_enter Tryd.func44, Tryd.ntmps44
  go_upto_region 1 with fail
  unfold PrgA.v
  obtain ⟨bp, hb0⟩ := entryP w u.lst _ rfl
  generalize (w.alloc (.cells u.lst.toArray 41)) = W0 at bp hb0 ⊢
  have HB0 := Lib.hid hb0
  have HBP0 := Lib.hid bp
  clear hb0 bp
  generalize w.heap.size = gp at HBP0 ⊢
  go_wp2_with (first
    | ((with_reducible show wpList _ _ _ (Oper.mk _ (.load 41 _) _ _ _ _ :: _) _ _); refine ld_prg HBP0.out rfl rfl _ rfl rfl ?_)
    | (go_at_call 76; (with_reducible refine (CC.out _ HB0.out).mono ?_); rintro e1 w1 ⟨rfl, hb1⟩; rw [HAB.out]))
  go_ret
  exact ⟨rfl, below_then HB0.out hb1⟩
set_option maxRecDepth 100000 in
theorem pr_Valid (u : PrgA) (w : World) (hf : FormsAt w) (hp : PrgAt w u) (hr9 : u.d.rg.length ≤ 9223372036854775807) (hc9 : u.d.code.length ≤ 9223372036854775807) {c : Bool} (hc : validB u.d = c) :
    Calls Tryd.prog 39 #[u.v] w fun e w' => e = .returned (.bool c) ∧ Below w.heap.size w w' := by
  have CC : Hid (∀ w1, Below w.heap.size w w1 → Calls Tryd.prog 71 #[.agg u.lst.toArray] w1 (RetChk w1 u.d)) := Lib.hid fun w1 hb => by
    have h := pr_Check u w1 (hf.grow hb) (hp.grow hb) hr9 hc9
    unfold PrgA.v at h
    exact h
  have hcv := chk_valid u.d
  rw [hc] at hcv
  obtain ⟨a, b, hab⟩ : ∃ a b : Int, chkF u.d = (a, b) := ⟨_, _, rfl⟩
  rw [hab] at hcv
  have hbc : (b == 0) = c := hcv
  have HAB := Lib.hid hab
  clear hcv hc hp hab hf
  go_enter Tryd.func39, Tryd.ntmps39
  go_upto_region 1 with fail
  unfold PrgA.v
  obtain ⟨bp, hb0⟩ := entryP w u.lst _ rfl
  generalize (w.alloc (.cells u.lst.toArray 41)) = W0 at bp hb0 ⊢
  have HB0 := Lib.hid hb0
  have HBP0 := Lib.hid bp
  clear hb0 bp
  generalize w.heap.size = gp at HBP0 ⊢
  go_wp2_with (first
    | ((with_reducible show wpList _ _ _ (Oper.mk _ (.load 41 _) _ _ _ _ :: _) _ _); refine ld_prg HBP0.out rfl rfl _ rfl rfl ?_)
    | (go_at_call 71; (with_reducible refine (CC.out _ HB0.out).mono ?_); rintro e1 w1 ⟨rfl, hb1⟩; rw [HAB.out]))
  go_ret
  exact ⟨rfl, below_then HB0.out hb1⟩
end Go.Proofs.YtdiflpbioohddaaDoor
end
section
namespace Go.Proofs.YtdiflpbioohddaaDoor
open Go.RowKit
def RetPrgE (w : World) (d : PrgD) (E : Int) (e : Ending) (w' : World) : Prop := ∃ u : PrgA, u.d = d ∧ e = .returned (.tuple #[u.v, .int .i64 E]) ∧ PrgAt w' u ∧ Below w.heap.size w w'
theorem valid_fine {d : PrgD} (h : validB d = true) : fineF d.code = true := by
  obtain ⟨-, -, h3, -⟩ := valid_parts h
  unfold fineF
  rw [inB_iff.2 (by omega), Bool.true_and]
  refine List.all_eq_true.2 fun i hi => ?_
  obtain ⟨k, hk, rfl⟩ := List.getElem_of_mem hi
  have hg := (valid_parts h).2.2.2 k hk
  unfold goodAt suitB at hg
  rw [Bool.and_eq_true, Bool.and_eq_true, List.getD_eq_getElem?_getD, List.getElem?_eq_getElem hk] at hg
  exact hg.1.1
theorem valid_rl {d : PrgD} (h : validB d = true) : d.rg.length ≤ 8 ∧ ∀ x ∈ d.rg, ringIn x = true := by
  obtain ⟨-, h2, -, -⟩ := valid_parts h
  unfold ringsB at h2
  rw [Bool.and_eq_true, decide_eq_true_eq] at h2
  refine ⟨h2.1, ?_⟩
  have := ringsK_all h2.2 (Nat.le_refl _)
  rw [List.take_length] at this
  exact this
theorem st_prgB {ops : Array Oper} {rest : List Oper} {o : Oper} {a : Act} {Q : Exit → Act → World → Prop} {w : World} {L M : List Value} {g : Nat} (hb : Box w g M) (hM : M.length = 10) (hL : L.length = 10) (h1 : L.all (·.oneCell') = true) (hgd : o.guard = none) (x y : Operand) (ho : o.op = .store 41 x y) (hx : a.eval x = .pointer (some ⟨g, 0, none⟩)) (hy : a.eval y = .agg L.toArray)
    (h : ∀ W1, Box W1 g L → w.grownBy W1 (some g) → wpList Tryd.prog ops Q rest (a.put o.dst undef) W1) : wpList Tryd.prog ops Q (o :: rest) a w :=
  wp_st hgd _ x y ho g 0 L hx hy (by rw [hL]; exact size_prg) h1 hb (by rw [hM, hL]; exact Nat.le_refl _) (by rw [List.take_zero, List.nil_append, List.drop_eq_nil_of_le (by rw [hM, hL]; exact Nat.le_refl _), List.append_nil]) h
end Go.Proofs.YtdiflpbioohddaaDoor
end
section
namespace Go.Proofs.YtdiflpbioohddaaDoor
open Go.RowKit
set_option maxRecDepth 100000 in
theorem copy_full {ops : Array Oper} {rest : List Oper} {o : Oper} {a : Act} {Q : Exit → Act → World → Prop} {w : World} (hgd : o.guard = none) (d s : Operand) (ho : o.op = .call { callee := .builtin .copy, args := #[d, s], argTypes := #[25, 25] })
    {base g n c : Nat} {z l : List Int} {A : Option Addr} (hd : a.eval d = .slice (some ⟨g, 0, none⟩) n n) (hs : a.eval s = .slice A n c) (hown : Own base w (.slice (some ⟨g, 0, none⟩) n n) z) (hz : z.length = n) (hI : Ints w A l) (hl : l.length = n)
    (h : ∀ w', Own base w' (.slice (some ⟨g, 0, none⟩) n n) l → w.grownBy w' (some g) → wpList Tryd.prog ops Q rest (a.put o.dst (.int .i64 n)) w') : wpList Tryd.prog ops Q (o :: rest) a w := by
  subst hl
  have hu := Tryd.underlying25
  have hsz : (Tryd.prog.info? 3).map (·.size) = some 1 := by kernel_rfl
  have h0 := hown
  obtain ⟨⟨hlen, hrow⟩, hall⟩ := hown
  rcases hrow with ⟨e, _⟩ | ⟨g', cap, cur, e, hbg, hg, hnc, hcm, hcs, htake⟩
  · cases e
  · injection e with e1 e2 e3
    injection e1 with e1
    injection e1 with e1
    subst e1 e3
    cases l with
    | nil =>
      have hz0 : z = [] := List.eq_nil_of_length_eq_zero hz
      subst hz0
      refine wpList_copy_nothing hgd d s _ _ ho 3 hu hsz _ _ _ _ _ _ hd hs (by simp) ?_
      exact h w h0 (grown_refl w _)
    | cons y t =>
      obtain ⟨ad, _, rfl, _⟩ := hI.at_ (k := 0) (by simp)
      refine wpList_copy_own hgd d s _ _ ho 3 hu hsz g 0 _ _ ad _ _ hd hs cur 3 hg ((y :: t).map (Value.int .i64)) (by simp) (fun j v hv => ?_) (by rw [List.length_map]; omega) (fun v hv => ?_) ?_
      · obtain ⟨ad', e', _, hc⟩ := hI.1 j v hv
        injection e' with e'; subst e'; exact hc
      · obtain ⟨q, _, rfl⟩ := List.mem_map.1 hv; rfl
      · have hcur : (cur.toList.take 0 ++ ((y :: t).map (Value.int .i64) ++ cur.toList.drop (0 + ((y :: t).map (Value.int .i64)).length))) = (y :: t).map (Value.int .i64) := by
          rw [List.drop_of_length_le (by rw [List.length_map, Array.length_toList]; omega)]; simp
        rw [hcur]
        have e3 : goInt ((y :: t).map (Value.int .i64)).length = .int .i64 ((y :: t).length : Nat) := by rw [List.length_map]; rfl
        rw [e3]
        refine h _ ⟨⟨by rw [List.length_map]; omega, .inr ⟨g, _, ((y :: t).map (Value.int .i64)).toArray, rfl, hbg, setRow_heap w g _ _ _ _ hg, Nat.le_refl _, hcm, by simp, List.take_of_length_le (by simp)⟩⟩, hI.2⟩ ⟨rfl, rfl, rfl, by simp [World.setRow], fun k _ hk => setRow_other w g k _ (fun e => hk (by rw [e]))⟩
end Go.Proofs.YtdiflpbioohddaaDoor
end
