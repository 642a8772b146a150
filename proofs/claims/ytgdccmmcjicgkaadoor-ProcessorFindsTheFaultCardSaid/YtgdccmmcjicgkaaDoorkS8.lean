/- Check of the reference of the processor; Valid of both. Printed by gen_s8.py. -/
import Derived.Test.YtgdccmmcjicgkaaDoorkS7
set_option linter.unusedVariables false
set_option linter.unusedSimpArgs false
namespace Go.Proofs.YtgdccmmcjicgkaaDoor
open Go.RowKit
def rcC (w : World) (gp cn : Nat) (L : List Value) (d : PrgD) (x : Value) (wr : World) : Prop :=
  ∃ k : Nat, k ≤ cn ∧ x = .int .i64 k ∧ Hid (Below w.heap.size w wr) ∧ Hid (Box wr gp L) ∧ Hid (∀ j, j < k → goodAt d j = true)
set_option maxRecDepth 100000 in
set_option maxHeartbeats 8000000 in
theorem r38_Check (u : PrgA) (w : World) (hp : PrgAt w u) (hr9 : u.d.rg.length ≤ 9223372036854775807) (hc9 : u.d.code.length ≤ 9223372036854775807) :
    Calls Tryd.prog 42 #[u.v] w (RetChk w u.d) := by
  obtain ⟨⟨d0, d1, d2, d3, c0, c1, c2, c3, rg, code⟩, RA, CA, rc, cc⟩ := u
  obtain ⟨hra, hca⟩ := hp
  simp only at hra hca hr9 hc9
  obtain ⟨rn, hrn⟩ : ∃ n, rg.length = n := ⟨_, rfl⟩
  obtain ⟨cn, hcn⟩ : ∃ n, code.length = n := ⟨_, rfl⟩
  obtain ⟨PD, hPD⟩ : ∃ x : PrgD, x = ⟨d0, d1, d2, d3, c0, c1, c2, c3, rg, code⟩ := ⟨_, rfl⟩
  have hgoal : Calls Tryd.prog 42 #[.agg #[.int .i64 d0, .int .i64 d1, .int .i64 d2, .int .i64 d3, .int .i64 c0, .int .i64 c1, .int .i64 c2, .int .i64 c3, .slice RA rn rc, .slice CA cn cc]] w (RetChk w PD) →
      Calls Tryd.prog 42 #[PrgA.v ⟨⟨d0, d1, d2, d3, c0, c1, c2, c3, rg, code⟩, RA, CA, rc, cc⟩] w (RetChk w (PrgA.d ⟨⟨d0, d1, d2, d3, c0, c1, c2, c3, rg, code⟩, RA, CA, rc, cc⟩)) := fun h => by
    unfold PrgA.v PrgA.lst
    simp only [hrn, hcn]
    rw [← hPD]
    exact h
  refine hgoal ?_
  clear hgoal
  rw [hrn] at hr9
  rw [hcn] at hc9
  obtain ⟨oD, hoD⟩ : ∃ c, okW d0 d1 d2 d3 = c := ⟨_, rfl⟩
  obtain ⟨oC, hoC⟩ : ∃ c, okW c0 c1 c2 c3 = c := ⟨_, rfl⟩
  have HV : Hid (okWD PD = (oD && oC)) := by rw [hPD]; unfold okWD; simp only; rw [hoD, hoC]; exact Lib.hid rfl
  have HD := Lib.hid hoD
  have HC := Lib.hid hoC
  have HRA := Lib.hid hra
  have HCA := Lib.hid hca
  have HRN := Lib.hid hrn
  have HCN := Lib.hid hcn
  have HPD := Lib.hid hPD
  have HRG : Hid (PD.rg = rg) := by rw [hPD]; exact Lib.hid rfl
  have HCO : Hid (PD.code = code) := by rw [hPD]; exact Lib.hid rfl
  clear hoD hoC hra hca hrn hcn hPD
  cases oD with
  | false =>
    go_enter Tryd.func42, Tryd.ntmps42
    go_wp2_with (go_at_call 75; (with_reducible refine (rf_Valid_is HD.out _).mono ?_); rintro e1 w1 ⟨rfl, hb1⟩)
    go_ret2
    exact RetChk.mk (chk_words HV.out) (((Below.refl _ _).alloc (Nat.le_refl _) _).trans (hb1.mono (by simp)))
  | true =>
    go_enter Tryd.func42, Tryd.ntmps42
    go_upto_region 1 with fail
    obtain ⟨bp, hb0⟩ := entryP w [.int .i64 d0, .int .i64 d1, .int .i64 d2, .int .i64 d3, .int .i64 c0, .int .i64 c1, .int .i64 c2, .int .i64 c3, .slice RA rn rc, .slice CA cn cc] _ rfl
    change Code.wp _ _ _ _ (w.alloc (.cells [.int .i64 d0, .int .i64 d1, .int .i64 d2, .int .i64 d3, .int .i64 c0, .int .i64 c1, .int .i64 c2, .int .i64 c3, .slice RA rn rc, .slice CA cn cc].toArray 43))
    generalize (w.alloc (.cells [.int .i64 d0, .int .i64 d1, .int .i64 d2, .int .i64 d3, .int .i64 c0, .int .i64 c1, .int .i64 c2, .int .i64 c3, .slice RA rn rc, .slice CA cn cc].toArray 43)) = W0 at bp hb0 ⊢
    have HB0 := Lib.hid hb0
    obtain ⟨⟨x0, x1, x2, x3⟩, ⟨x4, x5, x6, x7⟩, x8, x9⟩ := bp.c10
    have HBP0 := Lib.hid bp
    clear hb0 bp
    generalize hgp : w.heap.size = gp at HBP0 x0 x1 x2 x3 x4 x5 x6 x7 x8 x9 ⊢
    have HGP := Lib.hid hgp
    clear hgp
    obtain ⟨L, hL⟩ : ∃ L : List Value, [.int .i64 d0, .int .i64 d1, .int .i64 d2, .int .i64 d3, .int .i64 c0, .int .i64 c1, .int .i64 c2, .int .i64 c3, .slice RA rn rc, .slice CA cn cc] = L := ⟨_, rfl⟩
    rw [hL] at HBP0
    have HL := Lib.hid hL
    clear hL
    cases oC with
    | false =>
      go_wp2_with (go_at_call 75; (first
        | ((with_reducible refine (rf_Valid_is HD.out _).mono ?_); rintro e1 w1 ⟨rfl, hb1⟩; have hk1 := HBP0.out.keep hb1; rw [← HL.out] at hk1; obtain ⟨⟨x0, x1, x2, x3⟩, ⟨x4, x5, x6, x7⟩, x8, x9⟩ := hk1.c10)
        | ((with_reducible refine (rf_Valid_is HC.out _).mono ?_); rintro e1 w2 ⟨rfl, hb2⟩)))
      go_ret2
      exact RetChk.mk (chk_words HV.out) (below_then (below_then HB0.out hb1) hb2)
    | true =>
      go_upto_region 3 with (go_at_call 75; (first
        | ((with_reducible refine (rf_Valid_is HD.out _).mono ?_); rintro e1 w1 ⟨rfl, hb1⟩; have hk1 := HBP0.out.keep hb1; rw [← HL.out] at hk1; obtain ⟨⟨x0, x1, x2, x3⟩, ⟨x4, x5, x6, x7⟩, x8, x9⟩ := hk1.c10)
        | ((with_reducible refine (rf_Valid_is HC.out _).mono ?_); rintro e1 w2 ⟨rfl, hb2⟩)))
      have HB2 := Lib.hid (below_then (below_then HB0.out hb1) hb2)
      have HBP2 := Lib.hid ((HBP0.out.keep hb1).keep hb2)
      have hk2 := HBP2.out
      rw [← HL.out] at hk2
      obtain ⟨⟨x0, x1, x2, x3⟩, ⟨x4, x5, x6, x7⟩, x8, x9⟩ := hk2.c10
      clear hb1 hb2 hk1 hk2 HBP0 HB0
      have HV1 : Hid (okWD PD = true) := HV
      obtain ⟨bR, hbR⟩ : ∃ c, ringsB rg = c := ⟨_, rfl⟩
      have HRB : Hid (ringsB PD.rg = bR) := by rw [HRG.out, hbR]; exact Lib.hid rfl
      have CRG : Hid (Calls Tryd.prog 76 #[.slice RA rn rc] w2 fun e w' => e = .returned (.bool bR) ∧ Below w2.heap.size w2 w') := by
        rw [← hbR]; exact Lib.hid (r38_rings RA rn rc rg w2 (HRA.out.grow HB2.out) HRN.out hr9)
      clear hbR
      cases bR with
      | false =>
        go_wp2_with (go_at_call 76; (with_reducible refine CRG.out.mono ?_); rintro e1 w3 ⟨rfl, hb3⟩)
        go_ret2
        exact RetChk.mk (chk_rings HV1.out HRB.out) (below_then HB2.out hb3)
      | true =>
        go_upto_region 5 with (go_at_call 76; (with_reducible refine CRG.out.mono ?_); rintro e1 w3 ⟨rfl, hb3⟩)
        have HB3 := Lib.hid (below_then HB2.out hb3)
        have HBP3 := Lib.hid (HBP2.out.keep hb3)
        have hk3 := HBP3.out
        rw [← HL.out] at hk3
        obtain ⟨⟨x0, x1, x2, x3⟩, ⟨x4, x5, x6, x7⟩, x8, x9⟩ := hk3.c10
        clear hb3 hk3 HB2 HBP2 CRG
        have HRALL : Hid (rn ≤ 8 ∧ ∀ x ∈ rg, ringIn x = true) := by
          have h := HRB.out
          rw [HRG.out] at h
          unfold ringsB at h
          rw [Bool.and_eq_true, decide_eq_true_eq, HRN.out] at h
          have h2 := ringsK_all h.2 (by rw [HRN.out]; exact Nat.le_refl _)
          rw [List.take_of_length_le (by rw [HRN.out]; exact Nat.le_refl _)] at h2
          exact Lib.hid ⟨h.1, h2⟩
        obtain ⟨bN, hbN⟩ : ∃ c, inB (cn : Int) 1 512 = c := ⟨_, rfl⟩
        have HIN : Hid (inB PD.code.length 1 512 = bN) := by rw [HCO.out, HCN.out, hbN]; exact Lib.hid rfl
        have HBN := Lib.hid hbN
        have hcl : bN = true → 1 ≤ cn ∧ cn ≤ 512 := fun e => by
          rw [e] at hbN
          have := inB_iff.1 hbN
          omega
        clear hbN
        cases bN with
        | false =>
          clear hcl
          go_wp2_with (go_at_call 64; (with_reducible refine (in_is HBN.out _).mono ?_); rintro e1 w4 ⟨rfl, rfl⟩)
          go_ret2
          exact RetChk.mk (chk_many HV1.out HRB.out HIN.out) HB3.out
        | true =>
          have hcl := hcl rfl
          go_wp2_with (go_at_call 64; (with_reducible refine (in_is HBN.out _).mono ?_); rintro e1 w4 ⟨rfl, rfl⟩)
          clear x0 x1 x2 x3 x4 x5 x6 x7 x8 x9
          go_loopw [4] (fun x wx => rcC w gp cn L PD x wx) (fun x _ => cn - (intOf x).toNat)
          case atStart => exact ⟨0, Nat.zero_le _, rfl, HB3, HBP3, Lib.hid fun j hj => by omega⟩
          case round =>
            obtain ⟨j, hj, rfl, HBj, HBPj, HGO⟩ := hrel
            have hk3 := HBPj.out
            rw [← HL.out] at hk3
            have x9 := hk3.c10.2.2.2
            by_cases hjc : j < cn
            · obtain ⟨i, hi⟩ : ∃ i, code[j]? = some i := ⟨_, List.getElem?_eq_getElem (by rw [HCN.out]; exact hjc)⟩
              obtain ⟨ad, hCA, hs, hb, hr, hok⟩ := (HCA.out.grow HBj.out) j i hi
              subst hCA
              have HGI : Hid (PD.code.getD j Ins.zero = i) := by rw [HCO.out, List.getD_eq_getElem?_getD, hi]; exact Lib.hid rfl
              have HS := Lib.hid hs
              have HR := Lib.hid hr
              have HBLK := Lib.hid hb
              have HOK := Lib.hid hok
              have HBPQ := Lib.hid hk3
              have e9 := hk3.ext (k := 9) (v := .slice (some ad) cn cc) rfl
              obtain ⟨z0, -, -, -⟩ := ins_cells hs hr
              have hzb : (ad.add (j * 4)).block < wr.heap.size := by rw [block_add]; exact hb
              have e0 : ∀ n : Ext wr, n.to.cell? (ad.add (j * 4)) = some (.int .i64 i.op) := fun n => (n.below.cell hzb).trans z0
              have c1' : (0 : Int) ≤ (j : Int) := by omega
              have c2' : (j : Int) < (cn : Int) := by omega
              have wj : IntKind.i64.wrap ((j : Int) + 1) = ((j + 1 : Nat) : Int) := (IntWalk.i64_in _ (by omega)).trans (by omega)
              have wcn : IntKind.i64.wrap ((cn : Int) - 1) = ((cn - 1 : Nat) : Int) := (IntWalk.i64_in _ (by omega)).trans (by omega)
              clear hi hs hb hr hok hk3 z0 hzb
              obtain ⟨bl, hbl⟩ : ∃ c, decide (j = cn - 1) = c := ⟨_, rfl⟩
              have HLAST : Hid (decide (j + 1 = PD.code.length) = bl) := by
                rw [HCO.out, HCN.out, ← hbl]
                exact Lib.hid (decide_eq_decide.2 (by omega))
              have hbl2 : decide ((j : Int) = ((cn - 1 : Nat) : Int)) = bl := by rw [← hbl]; exact decide_eq_decide.2 (by omega)
              have hbl3 : ((j : Int) == ((cn - 1 : Nat) : Int)) = bl := hbl2
              obtain ⟨cn1, hcn1⟩ : ∃ x : Nat, cn - 1 = x := ⟨_, rfl⟩
              rw [hcn1] at wcn hbl hbl2 hbl3
              have hbl4 : (j == cn1) = bl := hbl
              clear hcn1
              obtain ⟨s, hs⟩ : ∃ s, i.formed = s := ⟨_, rfl⟩
              obtain ⟨b0, hb0⟩ : ∃ c, decide (i.op = 0) = c := ⟨_, rfl⟩
              have hb1 : (i.op == 0) = b0 := hb0
              have CFm : Hid (∀ n : Ext wr, Calls Tryd.prog 54 #[i.v] n.to fun e w' => e = .returned (.bool s) ∧ Below n.to.heap.size n.to w') := Lib.hid fun n => by rw [← hs]; exact r38_Formed i n.to HOK.out
              have HSF := Lib.hid hs
              have HB0' := Lib.hid hb0
              clear hs hb0
              have hq : goodAt PD j = ((s && fitI PD i) && (b0 == bl)) := by
                unfold goodAt suitB
                rw [HGI.out, HSF.out, HB0'.out, HLAST.out]
              cases s with
              | false =>
                have HGD : Hid (goodAt PD j = false) := by rw [hq]; exact Lib.hid rfl
                clear hq
                go_upto_region 10 with fail
                refine wp_region_ext (by kernel_rfl) (by kernel_rfl) ?_
                repeat (first
                  | ((with_reducible show wpQuiet _ _ _ _ (Oper.mk (some 38) (.load 24 _) _ _ _ _ :: _) _); refine qld_insA HS.out HBLK.out HR.out rfl (Operand.tmp 37) rfl rfl ?_; simp [Act.put])
                  | ((with_reducible show wpQuiet _ _ _ _ (Oper.mk (some 47) (.load 24 _) _ _ _ _ :: _) _); refine qld_insA HS.out HBLK.out HR.out rfl (Operand.tmp 46) rfl rfl ?_; simp [Act.put])
                  | ((with_reducible show wpQuiet _ _ _ _ (Oper.mk (some 42) (.load 43 _) _ _ _ _ :: _) _); refine qld_prg HBPQ.out rfl rfl (Operand.tmp 1) rfl rfl ?_; simp [Act.put])
                  | (go_big_quiet_step (first | (go_at_call 54; exact ext_below (CFm.out _)))))
                refine wpQuiet_nil ?_
                rintro ⟨w3, hb3⟩
                dsimp only
                go_wp2_with fail
                go_ret2
                exact RetChk.mk (chk_at HV1.out HRB.out HIN.out (k := j) (by rw [HCO.out, HCN.out]; exact hjc) HGO.out HGD.out) (below_then HBj.out hb3)
              | true =>
                obtain ⟨ff, hff⟩ : ∃ c, fitI PD i = c := ⟨_, rfl⟩
                rw [hff] at hq
                have CS : Hid (∀ n : Ext wr, Calls Tryd.prog 77 #[.agg #[.int .i64 d0, .int .i64 d1, .int .i64 d2, .int .i64 d3, .int .i64 c0, .int .i64 c1, .int .i64 c2, .int .i64 c3, .slice RA rn rc, .slice (some ad) cn cc], i.v] n.to fun e w' => e = .returned (.bool ff) ∧ Below n.to.heap.size n.to w') := Lib.hid fun n => by
                  have hw1 := HBj.out.trans (n.below.mono HBj.out.size)
                  have h := r38_fits ⟨⟨d0, d1, d2, d3, c0, c1, c2, c3, rg, code⟩, RA, some ad, rc, cc⟩ i n.to HSF.out (HRA.out.grow hw1) (by simp only; rw [HRN.out]; exact HRALL.out.1) HRALL.out.2 HC.out ff (by rw [← hff, HPD.out])
                  unfold PrgA.v PrgA.lst at h
                  simp only [HRN.out, HCN.out] at h
                  exact h
                clear hff
                cases ff with
                | false =>
                  have HGD : Hid (goodAt PD j = false) := by rw [hq]; exact Lib.hid rfl
                  clear hq
                  go_upto_region 10 with fail
                  refine wp_region_ext (by kernel_rfl) (by kernel_rfl) ?_
                  repeat (first
                    | ((with_reducible show wpQuiet _ _ _ _ (Oper.mk (some 38) (.load 24 _) _ _ _ _ :: _) _); refine qld_insA HS.out HBLK.out HR.out rfl (Operand.tmp 37) rfl rfl ?_; simp [Act.put])
                    | ((with_reducible show wpQuiet _ _ _ _ (Oper.mk (some 47) (.load 24 _) _ _ _ _ :: _) _); refine qld_insA HS.out HBLK.out HR.out rfl (Operand.tmp 46) rfl rfl ?_; simp [Act.put])
                    | ((with_reducible show wpQuiet _ _ _ _ (Oper.mk (some 42) (.load 43 _) _ _ _ _ :: _) _); refine qld_prg HBPQ.out rfl rfl (Operand.tmp 1) rfl rfl ?_; simp [Act.put])
                    | (go_big_quiet_step (first | (go_at_call 54; exact ext_below (CFm.out _)) | (go_at_call 77; exact ext_below (CS.out _)))))
                  refine wpQuiet_nil ?_
                  rintro ⟨w3, hb3⟩
                  dsimp only
                  go_wp2_with fail
                  go_ret2
                  exact RetChk.mk (chk_at HV1.out HRB.out HIN.out (k := j) (by rw [HCO.out, HCN.out]; exact hjc) HGO.out HGD.out) (below_then HBj.out hb3)
                | true =>
                  have HQ := Lib.hid hq
                  clear hq
                  go_upto_region 10 with fail
                  refine wp_region_ext (by kernel_rfl) (by kernel_rfl) ?_
                  repeat (first
                    | ((with_reducible show wpQuiet _ _ _ _ (Oper.mk (some 38) (.load 24 _) _ _ _ _ :: _) _); refine qld_insA HS.out HBLK.out HR.out rfl (Operand.tmp 37) rfl rfl ?_; simp [Act.put])
                    | ((with_reducible show wpQuiet _ _ _ _ (Oper.mk (some 47) (.load 24 _) _ _ _ _ :: _) _); refine qld_insA HS.out HBLK.out HR.out rfl (Operand.tmp 46) rfl rfl ?_; simp [Act.put])
                    | ((with_reducible show wpQuiet _ _ _ _ (Oper.mk (some 42) (.load 43 _) _ _ _ _ :: _) _); refine qld_prg HBPQ.out rfl rfl (Operand.tmp 1) rfl rfl ?_; simp [Act.put])
                    | (go_big_quiet_step (first | (go_at_call 54; exact ext_below (CFm.out _)) | (go_at_call 77; exact ext_below (CS.out _)))))
                  refine wpQuiet_nil ?_
                  rintro ⟨w3, hb3⟩
                  dsimp only
                  cases b0 with
                  | true =>
                    cases bl with
                    | true =>
                      have HGD : Hid (goodAt PD j = true) := HQ.out
                      go_wp2_with fail
                      go_roundw
                      case rel => exact ⟨j + 1, by omega, by go_num, Lib.hid (below_then HBj.out hb3), Lib.hid (HBPj.out.keep hb3), Lib.hid fun t ht => by
                        by_cases e : t = j
                        · rw [e]; exact HGD.out
                        · exact HGO.out t (by omega)⟩
                      case measure => simp [intOf]; omega
                    | false =>
                      have HGD : Hid (goodAt PD j = false) := HQ.out
                      go_wp2_with fail
                      go_ret2
                      exact RetChk.mk (chk_at HV1.out HRB.out HIN.out (k := j) (by rw [HCO.out, HCN.out]; exact hjc) HGO.out HGD.out) (below_then HBj.out hb3)
                  | false =>
                    cases bl with
                    | true =>
                      have HGD : Hid (goodAt PD j = false) := HQ.out
                      go_wp2_with fail
                      go_ret2
                      exact RetChk.mk (chk_at HV1.out HRB.out HIN.out (k := j) (by rw [HCO.out, HCN.out]; exact hjc) HGO.out HGD.out) (below_then HBj.out hb3)
                    | false =>
                      have HGD : Hid (goodAt PD j = true) := HQ.out
                      go_wp2_with fail
                      go_roundw
                      case rel => exact ⟨j + 1, by omega, by go_num, Lib.hid (below_then HBj.out hb3), Lib.hid (HBPj.out.keep hb3), Lib.hid fun t ht => by
                        by_cases e : t = j
                        · rw [e]; exact HGD.out
                        · exact HGO.out t (by omega)⟩
                      case measure => simp [intOf]; omega
            · obtain rfl : j = cn := by omega
              clear hk3
              go_wp2_with fail
              go_ret2
              exact RetChk.mk (chk_ok HV1.out HRB.out HIN.out (by rw [HCO.out, HCN.out]; exact HGO.out)) HBj.out
end Go.Proofs.YtgdccmmcjicgkaaDoor
