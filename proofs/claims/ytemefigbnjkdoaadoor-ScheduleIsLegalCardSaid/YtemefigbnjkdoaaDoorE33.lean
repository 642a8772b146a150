/- The law ScheduleIsLegal. Printed by gen_e33.py. -/
import Derived.Test.YtemefigbnjkdoaaDoorE32
set_option linter.unusedVariables false
set_option linter.unusedSimpArgs false
namespace Go.Proofs.YtemefigbnjkdoaaDoor
open Go.RowKit

def liRel (sn yb yg cn yc : Nat) (cl : List Ins) (w6 : World) (x : Value) (wr : World) : Prop :=
  ∃ (k : Nat) (ys : List Ins), x = .int .i64 k ∧ k ≤ 20 ∧ k ≤ sn ∧ Hid (OwnIR yb wr (.slice (some ⟨yg, 0, none⟩) cn yc) ys) ∧ Hid (Tr cl ys) ∧ Hid (Below yb w6 wr)
set_option maxRecDepth 100000 in
set_option maxHeartbeats 16000000 in
theorem law_ScheduleIsLegal (dd : DraftA) (s : Option Addr × Nat × List Int) (w : World) (hf : FormsAt w) (hd : DraftOk w dd) (hs : Ints w s.1 s.2.2 ∧ s.2.2.length ≤ 9223372036854775807) :
    Calls Tryd.prog 5 #[dd.v, .slice s.1 s.2.2.length s.2.1] w fun e w' => e = .returned (.bool true) ∧ Below w.heap.size w w' := by
  obtain ⟨SA, sc, sl⟩ := s
  obtain ⟨hsi, h93⟩ := hs
  simp only at hsi h93 ⊢
  obtain ⟨sn, hsn⟩ : ∃ n, sl.length = n := ⟨_, rfl⟩
  rw [hsn] at h93 ⊢
  have CK : Hid (∀ w1, Below w.heap.size w w1 → Calls Tryd.prog 6 #[] w1 fun e w' => e = .returned (.bool true) ∧ Below w1.heap.size w1 w') := fun w1 hb => known40 w1 (hf.grow hb)
  have hent : Below w.heap.size w (w.alloc (.cells #[.int .i64 dd.dn, .int .i64 dd.cn, .slice dd.RA dd.rs.length dd.rc, .slice dd.OA dd.os.length dd.oc, .slice dd.FA dd.fs.length dd.fc] 39)) := (Below.refl _ _).alloc (Nat.le_refl _) _
  have hbox : Box (w.alloc (.cells #[.int .i64 dd.dn, .int .i64 dd.cn, .slice dd.RA dd.rs.length dd.rc, .slice dd.OA dd.os.length dd.oc, .slice dd.FA dd.fs.length dd.fc] 39)) w.heap.size dd.lst := Box.new rfl
  have HF := Lib.hid hf
  have HSN := Lib.hid hsn
  have HSI := Lib.hid hsi
  have HDD := Lib.hid hd
  obtain ⟨cl, hcl⟩ : ∃ x, (dd.d 25).code = x := ⟨_, rfl⟩
  obtain ⟨cn, hcn⟩ : ∃ x, cl.length = x := ⟨_, rfl⟩
  have hcp : 1 ≤ cn ∧ cn ≤ 26 := by
    have := prgF_code_pos dd.dn dd.cn dd.rs dd.os dd.fs 25
    rw [← hcn, ← hcl]; exact this
  have hfc : fineF cl = true := by rw [← hcl]; exact prgF_fine dd.dn dd.cn dd.rs dd.os dd.fs 25 (by omega)
  have HFC := Lib.hid hfc
  have HCN := Lib.hid hcn
  have eD : depE cl = 0 := by unfold depE; rw [if_pos hfc]
  have eG : grD cl = grF cl := by unfold grD; rw [if_pos hfc]
  have CP : Hid (∀ w1, Below w.heap.size w w1 → Calls Tryd.prog 19 #[dd.v, .int .i64 25] w1 fun e w' => ∃ v0 v1 v2 v3 v4 v5 v6 v7 RA rn rc CA cc, e = .returned (.agg #[.int .i64 v0, .int .i64 v1, .int .i64 v2, .int .i64 v3, .int .i64 v4, .int .i64 v5, .int .i64 v6, .int .i64 v7, .slice RA rn rc, .slice CA cn cc]) ∧ InsAt w' CA cl ∧ Below w1.heap.size w1 w') := fun w1 hb => by
    have h := dr_Code dd 25 w1 (HDD.out.grow hb) (by omega)
    refine Calls.mono (show Calls Tryd.prog 19 #[dd.v, .int .i64 25] w1 _ from h) fun e w' hr => ?_
    obtain ⟨p, h1, h2, h3, h4⟩ := hr
    have e1 : p.d.code = cl := by rw [h1]; exact hcl
    rw [e1, hcn] at h2
    exact ⟨_, _, _, _, _, _, _, _, _, _, _, _, _, h2, by rw [← e1]; exact h3.2, h4⟩
  have CG : Hid (∀ w1 X xc, Below w.heap.size w w1 → InsAt w1 X cl → Calls Tryd.prog 13 #[.slice X cn xc] w1 fun e w' => ∃ A c, e = .returned (.tuple #[.slice A cn c, .int .i64 0]) ∧ InsAt w' A (grF cl) ∧ Below w1.heap.size w1 w') := fun w1 X xc hb hx =>
    (sc_Greedy X cn xc cl w1 (HF.out.grow hb) hx HCN.out (by omega)).mono fun e w' hr => by
      obtain ⟨A, c, h1, h2, h3⟩ := RetIns.form hr
      rw [eG, grF_len, HCN.out, eD] at h1
      rw [eG] at h2
      exact ⟨A, c, h1, h2, h3⟩
  have CL : Hid (∀ w1 X xc Y yc ys, Below w.heap.size w w1 → InsAt w1 X cl → InsAt w1 Y ys → Tr cl ys → Calls Tryd.prog 17 #[.slice X cn xc, .slice Y cn yc] w1 fun e w' => e = .returned (.tuple #[.bool true, .int .i64 0]) ∧ Below w1.heap.size w1 w') := fun w1 X xc Y yc ys hb hx hy ht => by
    have h := sc_Legal X Y cn xc cn yc cl ys w1 (HF.out.grow hb) hx hy HCN.out (ht.len.trans HCN.out) (by omega) (by omega)
    rw [(ht.legR HFC.out).1, (ht.legR HFC.out).2] at h
    exact h
  obtain ⟨LO, hLO⟩ : ∃ x, lowD cl = x := ⟨_, rfl⟩
  have CLo : Hid (∀ w1 X xc, Below w.heap.size w w1 → InsAt w1 X cl → Calls Tryd.prog 11 #[.slice X cn xc] w1 fun e w' => e = .returned (.tuple #[.int .i64 LO, .int .i64 0]) ∧ Below w1.heap.size w1 w') := fun w1 X xc hb hx => by
    have h := sc_Lower X cn xc cl w1 (HF.out.grow hb) hx HCN.out (by omega)
    rw [hLO, eD] at h
    exact h
  have CT : Hid (∀ w1 Y yc ys, Below w.heap.size w w1 → InsAt w1 Y ys → Tr cl ys → Calls Tryd.prog 21 #[.slice Y cn yc] w1 fun e w' => ∃ t u, LO ≤ t ∧ e = .returned (.tuple #[.int .i64 t, .int .i64 u, .int .i64 0]) ∧ Below w1.heap.size w1 w') := fun w1 Y yc ys hb hy ht =>
    (sm_Time Y cn yc ys w1 (HF.out.grow hb) hy (ht.len.trans HCN.out) (by omega)).mono fun e w' hr => by
      obtain ⟨h1, h2⟩ := hr
      have e2 : depE ys = 0 := by unfold depE; rw [if_pos (ht.fine HFC.out)]
      rw [e2] at h1
      exact ⟨_, _, by rw [← hLO]; exact low_tr ht HFC.out, h1, h2⟩
  have HBOX := Lib.hid hbox
  have HENT := Lib.hid hent
  obtain ⟨hcp1, hcp2⟩ := hcp
  clear hsi hsn hf hd hent hbox hcl hcn HDD hfc eD eG hLO
  have HFD := Lib.hid Tryd.func8
  have HFN : Hid ((Tryd.f8.name == "runtime.NumGoroutine") = false) := Lib.hid (by kernel_rfl)
  have HFB : Hid (Tryd.f8.body.isSome = true) := Lib.hid (by kernel_rfl)
  have hfld := @fld_code
  go_enter Tryd.func5, Tryd.ntmps5
  go_upto_region 1 with fail
  have HE0 := HENT.out
  have HX0 := HBOX.out
  generalize w.alloc (.cells #[.int .i64 dd.dn, .int .i64 dd.cn, .slice dd.RA dd.rs.length dd.rc, .slice dd.OA dd.os.length dd.oc, .slice dd.FA dd.fs.length dd.fc] 39) = w0 at HE0 HX0 ⊢
  have HB0 := Lib.hid HE0
  have HX := Lib.hid HX0
  clear HE0 HX0 HENT HBOX
  go_upto_region 2 with (first
    | ((with_reducible show wpList _ _ _ (Oper.mk (some 25) (.load _ _) _ _ _ _ :: _) _ _); refine ld_dft HX.out rfl _ rfl rfl ?_)
    | (go_at_call 19; (with_reducible refine (CP.out _ HB0.out).mono ?_); rintro e1 w1 ⟨v0, v1, v2, v3, v4, v5, v6, v7, RA, rn, rc, CA, cc, rfl, hca, hb1⟩))
  have HB1 := Lib.hid (below_then HB0.out hb1)
  have HC1 := Lib.hid hca
  clear hb1 hca CP HX HB0 hfld
  go_upto_region 3 with (go_at_call 13; (with_reducible refine (CG.out _ _ _ HB1.out HC1.out).mono ?_); rintro e1 w2 ⟨GA, gc, rfl, hga, hb2⟩)
  have HB2 := Lib.hid (below_then HB1.out hb2)
  have HC2 := Lib.hid (HC1.out.grow hb2)
  have HG2 := Lib.hid hga
  clear hb2 hga CG HC1 HB1
  go_upto_region 4 with (go_at_call 17; (with_reducible refine (CL.out _ _ _ _ _ _ HB2.out HC2.out HG2.out (Tr.greedy cl)).mono ?_); rintro e1 w6 ⟨rfl, hb6⟩)
  have HB06 := Lib.hid (below_then HB2.out hb6)
  have HCA := Lib.hid (HC2.out.grow hb6)
  have HGA := Lib.hid (HG2.out.grow hb6)
  have HEA : Hid (Below w6.heap.size w6 (w6.alloc (.cells #[] 50))) := Lib.hid ((Below.refl _ _).alloc (Nat.le_refl _) _)
  obtain ⟨yb, hyb⟩ : ∃ x, w6.heap.size = x := ⟨_, rfl⟩
  have HYBE := Lib.hid hyb
  have hlx : ([] : List Ins).length + cn ≤ 100000000 := by show 0 + cn ≤ _; omega
  clear hb6 HB2 HC2 HG2 hyb
  go_upto_region 5 with (first
    | ((with_reducible show wpList _ _ _ (Oper.mk (some 41) _ _ _ _ _ :: _) _ _); refine app_ins (w6.alloc (.cells #[] 50)) rfl _ _ rfl w6.heap.size (l := []) (m := cl) rfl rfl emp_ins (HCA.out.grow HEA.out) HCN.out hlx HEA.out.size ?_; intro vy w7 hy7 hb7; obtain ⟨yg, yc, ey⟩ := hy7.some (by rw [List.nil_append, HCN.out]; exact hcp1); rw [List.nil_append, HCN.out] at ey; subst ey))
  rw [List.nil_append, HYBE.out] at hy7
  rw [HYBE.out] at hb7
  have HY7 := Lib.hid hy7
  have HB7 : Hid (Below yb w6 w7) := by
    have h := HEA.out
    rw [HYBE.out] at h
    exact h.trans hb7
  have HT0 : Hid (Tr cl cl) := Lib.hid (Tr.refl cl)
  clear hy7 hb7 HEA
  go_upto_block 0 with fail
  go_cut [11] (fun _ wx => ∃ ys : List Ins, Hid (OwnIR yb wx (.slice (some ⟨yg, 0, none⟩) cn yc) ys) ∧ Hid (Tr cl ys) ∧ Hid (Below yb w6 wx))
  case first =>
    go_wp2_with fail
    go_loopw [11] (fun x wr => liRel sn yb yg cn yc cl w6 x wr) (fun x _ => 20 - (intOf x).toNat)
    case atStart => exact ⟨0, cl, rfl, by omega, Nat.zero_le _, HY7, HT0, HB7⟩
    case round =>
      obtain ⟨k, ys, rfl, hk4, hks, HOY, HTR, HBY⟩ := hrel
      have HYL0 : Hid (ys.length = cn) := HTR.out.len.trans HCN.out
      have HYL := HYL0.out
      by_cases hlt : k < sn ∧ k < 20
      · obtain ⟨hk1, hk2⟩ := hlt
        have HBW : Hid (Below w.heap.size w wr) := HB06.out.trans (HBY.out.mono (by have := HB06.out.size; have := HYBE.out; omega))
        obtain ⟨sa, sv, rfl, hsb, hsv, hsc, -, -⟩ := (HSI.out.grow HBW.out).at_ (k := k) (by rw [HSN.out]; exact hk1)
        obtain ⟨q, hq⟩ : ∃ q, withinF sv (cn : Int) = q := ⟨_, rfl⟩
        have hq1 := within_in (m := (cn : Int)) (by omega) sv
        rw [hq] at hq1
        obtain ⟨qn, hqn⟩ := Int.eq_ofNat_of_zero_le hq1.1
        subst hqn
        have CW : Hid (∀ w1, Calls Tryd.prog 20 #[.int .i64 sv, .int .i64 (cn : Int)] w1 fun e w' => e = .returned (.int .i64 (qn : Int)) ∧ w1 = w') := fun w1 => by
          rw [← hq]; exact wd_Within sv cn w1 (by omega)
        have hqc : qn < cn := by omega
        have x1 : (0 : Int) ≤ (k : Int) := by omega
        have x2 : (k : Int) < (sn : Int) := by omega
        have x3 : (k : Int) < 20 := by omega
        have x4 : decide ((k : Int) < 20) = true := decide_eq_true x3
        have wk : IntKind.i64.wrap ((k : Int) + 1) = ((k + 1 : Nat) : Int) := (IntWalk.i64_in _ (by omega)).trans (by omega)
        have wq : IntKind.i64.wrap ((qn : Int) + 1) = ((qn + 1 : Nat) : Int) := (IntWalk.i64_in _ (by omega)).trans (by omega)
        clear hsv hq hq1 hsb
        by_cases hsw : qn + 1 < cn
        · have x5 : ((qn + 1 : Nat) : Int) < (cn : Int) := by omega
          have x6 : (qn : Int) + 1 < (cn : Int) := by omega
          obtain ⟨ia, hia⟩ : ∃ x, ys[qn]? = some x := ⟨_, List.getElem?_eq_getElem (by omega)⟩
          obtain ⟨ib, hib⟩ : ∃ x, ys[qn + 1]? = some x := ⟨_, List.getElem?_eq_getElem (by omega)⟩
          obtain ⟨Ay, cy, ey, -, hiy⟩ := HOY.out.form
          injection ey with ey ey2 ey3
          subst ey
          clear ey2 ey3
          obtain ⟨ad1, ea1, -, yb1, r1, o1⟩ := hiy qn ia hia
          obtain ⟨ad2, ea2, -, -, r2, o2⟩ := hiy (qn + 1) ib hib
          injection ea1 with ea1
          injection ea2 with ea2
          subst ea1 ea2
          have HYG := Lib.hid yb1
          have HRA0 := Lib.hid r1
          have HRB0 := Lib.hid r2
          have HOKA := Lib.hid o1
          have HOKB := Lib.hid o2
          have HIA := Lib.hid hia
          have HIB := Lib.hid hib
          have qa : (0 : Int) ≤ (qn : Int) := by omega
          have qb : (qn : Int) < (cn : Int) := by omega
          have qc : (0 : Int) ≤ ((qn + 1 : Nat) : Int) := by omega
          have qd : ((qn + 1 : Nat) : Int) < (cn : Int) := by omega
          have qe : (0 : Int) ≤ (qn : Int) + 1 := by omega
          have qf : (qn : Int) + 1 < (cn : Int) := by omega
          have zq : decide (((qn + 1 : Nat) : Int) < (cn : Int)) = true := decide_eq_true x5
          clear r1 r2 o1 o2 yb1 hia hib hiy
          go_upto_region 9 with (go_at_call 20; (with_reducible refine (CW.out _).mono ?_); rintro e1 w8 ⟨rfl, rfl⟩)
          by_cases hii : ia = ib
          · subst hii
            refine wp_region_ext (by kernel_rfl) (by kernel_rfl) ?_
            repeat (first
              | ((with_reducible show wpQuiet _ _ _ _ (Oper.mk (some 68) (.load 50 _) _ _ _ _ :: _) _); refine qld_insA (ad := ⟨yg, 0, none⟩) (n := qn * 4) (i := ia) rfl HYG.out HRA0.out rfl (Operand.tmp 67) rfl (by simp [Act.eval, Addr.add]) ?_; simp [Act.put])
              | ((with_reducible show wpQuiet _ _ _ _ (Oper.mk (some 73) (.load 50 _) _ _ _ _ :: _) _); refine qld_insA (ad := ⟨yg, 0, none⟩) (n := (qn + 1) * 4) (i := ia) rfl HYG.out HRB0.out rfl (Operand.tmp 72) rfl (by simp [Act.eval, Addr.add]) ?_; simp [Act.put])
              | (go_big_quiet_step (fail)))
            refine wpQuiet_nil ?_
            rintro ⟨w9, hb9⟩
            dsimp only
            have HOY9 := Lib.hid (HOY.out.grow hb9)
            have HBY9 : Hid (Below yb w6 w9) := HBY.out.trans (hb9.mono (Nat.le_trans (Nat.le_of_eq HYBE.out.symm) HBY.out.size))
            clear hb9
            go_wp2_with fail
            go_roundw
            case rel => exact ⟨k + 1, ys, by go_num, by omega, by omega, HOY9, HTR, HBY9⟩
            case measure => simp [intOf]; omega
          · have ok1 := HOKA.out
            have ok2 := HOKB.out
            refine wp_region_ext (by kernel_rfl) (by kernel_rfl) ?_
            repeat (first
              | ((with_reducible show wpQuiet _ _ _ _ (Oper.mk (some 68) (.load 50 _) _ _ _ _ :: _) _); refine qld_insA (ad := ⟨yg, 0, none⟩) (n := qn * 4) (i := ia) rfl HYG.out HRA0.out rfl (Operand.tmp 67) rfl (by simp [Act.eval, Addr.add]) ?_; simp [Act.put])
              | ((with_reducible show wpQuiet _ _ _ _ (Oper.mk (some 73) (.load 50 _) _ _ _ _ :: _) _); refine qld_insA (ad := ⟨yg, 0, none⟩) (n := (qn + 1) * 4) (i := ib) rfl HYG.out HRB0.out rfl (Operand.tmp 72) rfl (by simp [Act.eval, Addr.add]) ?_; simp [Act.put])
              | ((with_reducible show wpQuiet _ _ _ _ (Oper.mk (some 74) _ _ _ _ _ :: _) _); refine q_neq_ins ok1 ok2 hii rfl _ _ _ rfl rfl rfl ?_; simp [Act.put])
              | (go_big_quiet_step (fail)))
            refine wpQuiet_nil ?_
            rintro ⟨w9, hb9⟩
            dsimp only
            have HOY9 := Lib.hid (HOY.out.grow hb9)
            have HBY9 : Hid (Below yb w6 w9) := HBY.out.trans (hb9.mono (Nat.le_trans (Nat.le_of_eq HYBE.out.symm) HBY.out.size))
            have HNE := Lib.hid hii
            have hFA : ia.formed = true := fine_all (HTR.out.fine HFC.out) ia (List.mem_of_getElem? HIA.out)
            have hFB : ib.formed = true := fine_all (HTR.out.fine HFC.out) ib (List.mem_of_getElem? HIB.out)
            obtain ⟨dr, hdr⟩ : ∃ r : List Int, (if depF ia ib then [0] else []) = r := ⟨_, rfl⟩
            have hok : ∀ i ∈ [ia, ib], i.ok := fun i hi => by
              rcases List.mem_cons.1 hi with rfl | hi
              · exact ok1
              · rw [List.mem_singleton.1 hi]; exact ok2
            have CD2 : Hid (∀ W : World, Calls Tryd.prog 8 #[.slice (some ⟨W.heap.size, 0, none⟩) 2 2] (litI W [ia, ib]) fun e w' => ∃ A c, e = .returned (.tuple #[.slice A 2 c, .int .i64 0]) ∧ IntsL w' A [[], dr] ∧ Below (litI W [ia, ib]).heap.size (litI W [ia, ib]) w') := fun W => by
              have h := r40_Depends (some ⟨W.heap.size, 0, none⟩) 2 2 [ia, ib] (litI W [ia, ib]) (InsAt.lit hok) rfl (by omega)
              rw [(depD_two hFA hFB).1, (depD_two hFA hFB).2, hdr] at h
              exact h
            have HDR := Lib.hid hdr
            have HRA1 : Hid (w9.rangeAt yg (0 + qn * 4) ia.cells) := Lib.hid (range_keepI HRA0.out HYG.out hb9)
            have HRB1 : Hid (w9.rangeAt yg (0 + (qn + 1) * 4) ib.cells) := Lib.hid (range_keepI HRB0.out HYG.out hb9)
            have HRA := HRA1
            have HRB := HRB1
            have HYG9 : Hid (yg < w9.heap.size) := Nat.lt_of_lt_of_le HYG.out hb9.size
            clear hb9 hdr hii ok1 ok2 hok HOY HBY HRA0 HRB0 hFA hFB
            go_upto_region 10 with fail
            refine wp_region_held (S := fun _ => True) (by kernel_rfl) ?_
            show wpAnyH Tryd.prog .any _ _ _ 16 #[false, false, false, false, false, false, false, false, false, false, false, false, false, false, false, false] _ _
            refine wpAnyH_take (i := 0) (oi := _) (v := (.slice (some ⟨yg, 0, none⟩) cn yc)) rfl (by kernel_rfl) (by kernel_rfl) (by kernel_rfl) (fun _ _ _ h => h) (Or.inl ⟨by kernel_rfl, fun w _ => rfl⟩) trivial ?_
            show wpAnyH Tryd.prog .any _ _ _ _ _ (Act.put _ (some 77) _) _
            simp only [Act.put, List.setIfInBounds_toArray, List.set_cons_zero, List.set_cons_succ]
            refine wpAnyH_take (i := 1) (oi := _) (v := (.int .i64 (qn : Int))) rfl (by kernel_rfl) (by kernel_rfl) (by kernel_rfl) (fun _ _ _ h => h) (Or.inl ⟨by kernel_rfl, fun w _ => rfl⟩) trivial ?_
            show wpAnyH Tryd.prog .any _ _ _ _ _ (Act.put _ (some 78) _) _
            simp only [Act.put, List.setIfInBounds_toArray, List.set_cons_zero, List.set_cons_succ]
            refine wpAnyH_take (i := 4) (oi := _) (v := (.slice (some ⟨yg, 0, none⟩) cn yc)) rfl (by kernel_rfl) (by kernel_rfl) (by kernel_rfl) (fun _ _ _ h => h) (Or.inl ⟨by kernel_rfl, fun w _ => rfl⟩) trivial ?_
            show wpAnyH Tryd.prog .any _ _ _ _ _ (Act.put _ (some 81) _) _
            simp only [Act.put, List.setIfInBounds_toArray, List.set_cons_zero, List.set_cons_succ]
            refine wpAnyH_take (i := 5) (oi := _) (v := (.int .i64 (qn : Int))) rfl (by kernel_rfl) (by kernel_rfl) (by kernel_rfl) (fun _ _ _ h => h) (Or.inl ⟨by kernel_rfl, fun w _ => rfl⟩) trivial ?_
            show wpAnyH Tryd.prog .any _ _ _ _ _ (Act.put _ (some 82) _) _
            simp only [Act.put, List.setIfInBounds_toArray, List.set_cons_zero, List.set_cons_succ]
            refine wpAnyH_take (i := 6) (oi := _) (v := (.int .i64 ((qn + 1 : Nat) : Int))) rfl (by kernel_rfl) (by kernel_rfl) (by kernel_rfl) (fun _ _ _ h => h) (Or.inl ⟨by kernel_rfl, fun w _ => by simp [execOp, go_sem, Act.put, Act.eval, wq]⟩) trivial ?_
            show wpAnyH Tryd.prog .any _ _ _ _ _ (Act.put _ (some 83) _) _
            simp only [Act.put, List.setIfInBounds_toArray, List.set_cons_zero, List.set_cons_succ]
            refine wpAnyH_take (i := 2) (oi := _) (v := (.pointer (some (Addr.add ⟨yg, 0, none⟩ (qn * 4))))) rfl (by kernel_rfl) (by kernel_rfl) (by kernel_rfl) (fun _ _ _ h => h) (Or.inl ⟨by kernel_rfl, fun w _ => by simp [execOp, go_sem, Act.put, Act.eval, qa, qb, qe, qf]⟩) trivial ?_
            show wpAnyH Tryd.prog .any _ _ _ _ _ (Act.put _ (some 79) _) _
            simp only [Act.put, List.setIfInBounds_toArray, List.set_cons_zero, List.set_cons_succ]
            refine wpAnyH_take (i := 7) (oi := _) (v := (.pointer (some (Addr.add ⟨yg, 0, none⟩ ((qn + 1) * 4))))) rfl (by kernel_rfl) (by kernel_rfl) (by kernel_rfl) (fun _ _ _ h => h) (Or.inl ⟨by kernel_rfl, fun w _ => by simp [execOp, go_sem, Act.put, Act.eval, qa, qb, qe, qf]⟩) trivial ?_
            show wpAnyH Tryd.prog .any _ _ _ _ _ (Act.put _ (some 84) _) _
            simp only [Act.put, List.setIfInBounds_toArray, List.set_cons_zero, List.set_cons_succ]
            refine anyX_two (i := 3) (j := 8) rfl rfl (by kernel_rfl) rfl rfl (fun cs b h => by cases h) (fun cs b h => by cases h) (fun d h => by cases h; exact of_decide_eq_true rfl) (fun d h => by cases h; exact of_decide_eq_true rfl) ?_ ?_
            · refine ld_insA (ad := ⟨yg, 0, none⟩) (n := qn * 4) (i := ia) rfl HRA.out rfl _ rfl rfl ?_
              refine ⟨rfl, _, rfl, trivial, ?_⟩
              simp only [Act.put, List.setIfInBounds_toArray, List.set_cons_zero, List.set_cons_succ]
              refine anyX_one (i := 8) rfl (by kernel_rfl) rfl (fun cs b h => by cases h) (fun d h => by cases h; exact of_decide_eq_true rfl) ?_
              refine ld_insA (ad := ⟨yg, 0, none⟩) (n := (qn + 1) * 4) (i := ib) rfl HRB.out rfl _ rfl rfl ?_
              refine ⟨rfl, _, rfl, trivial, ?_⟩
              simp only [Act.put, List.setIfInBounds_toArray, List.set_cons_zero, List.set_cons_succ]
              refine anyX_one (i := 9) rfl (by kernel_rfl) rfl (fun cs b h => by cases h) (fun d h => by cases h; exact of_decide_eq_true rfl) ?_
              refine bld_ins2 ia ib rfl _ _ rfl rfl rfl ?_
              refine ⟨rfl, _, rfl, trivial, ?_⟩
              simp only [Act.put, List.setIfInBounds_toArray, List.set_cons_zero, List.set_cons_succ]
              refine anyX_one (i := 10) rfl (by kernel_rfl) rfl (fun cs b h => by cases h) (fun d h => by cases h; exact of_decide_eq_true rfl) ?_
              refine wp_call1 HFD.out HFN.out HFB.out rfl rfl rfl #[.slice (some ⟨w9.drew.heap.size, 0, none⟩) 2 2] rfl (CD2.out w9.drew) ?_
              rintro e1 w12 ⟨DA, dc, rfl, hda, hb12⟩
              refine ⟨_, rfl, ?_⟩
              refine ⟨rfl, _, rfl, trivial, ?_⟩
              simp only [Act.put, List.setIfInBounds_toArray, List.set_cons_zero, List.set_cons_succ]
              refine wpAnyH_take (i := 11) (oi := _) (v := (.tuple #[.slice DA 2 dc, .int .i64 0])) rfl (by kernel_rfl) (by kernel_rfl) (by kernel_rfl) (fun _ _ _ h => h) (Or.inl ⟨by kernel_rfl, fun w _ => rfl⟩) trivial ?_
              show wpAnyH Tryd.prog .any _ _ _ _ _ (Act.put _ (some 76) _) _
              simp only [Act.put, List.setIfInBounds_toArray, List.set_cons_zero, List.set_cons_succ]
              refine wpAnyH_take (i := 12) (oi := _) (v := (.slice DA 2 dc)) rfl (by kernel_rfl) (by kernel_rfl) (by kernel_rfl) (fun _ _ _ h => h) (Or.inl ⟨by kernel_rfl, fun w _ => by simp [execOp, go_sem, Act.put, Act.eval]⟩) trivial ?_
              show wpAnyH Tryd.prog .any _ _ _ _ _ (Act.put _ (some 88) _) _
              simp only [Act.put, List.setIfInBounds_toArray, List.set_cons_zero, List.set_cons_succ]
              refine wpAnyH_take (i := 13) (oi := _) (v := (.int .i64 0)) rfl (by kernel_rfl) (by kernel_rfl) (by kernel_rfl) (fun _ _ _ h => h) (Or.inl ⟨by kernel_rfl, fun w _ => by simp [execOp, go_sem, Act.put, Act.eval]⟩) trivial ?_
              show wpAnyH Tryd.prog .any _ _ _ _ _ (Act.put _ (some 89) _) _
              simp only [Act.put, List.setIfInBounds_toArray, List.set_cons_zero, List.set_cons_succ]
              refine wpAnyH_take (i := 14) (oi := _) (v := (.slice DA 2 dc)) rfl (by kernel_rfl) (by kernel_rfl) (by kernel_rfl) (fun _ _ _ h => h) (Or.inl ⟨by kernel_rfl, fun w _ => by simp [execOp, go_sem, Act.put, Act.eval]⟩) trivial ?_
              show wpAnyH Tryd.prog .any _ _ _ _ _ (Act.put _ (some 13) _) _
              simp only [Act.put, List.setIfInBounds_toArray, List.set_cons_zero, List.set_cons_succ]
              refine wpAnyH_take (i := 15) (oi := _) (v := (.int .i64 0)) rfl (by kernel_rfl) (by kernel_rfl) (by kernel_rfl) (fun _ _ _ h => h) (Or.inl ⟨by kernel_rfl, fun w _ => by simp [execOp, go_sem, Act.put, Act.eval]⟩) trivial ?_
              show wpAnyH Tryd.prog .any _ _ _ _ _ (Act.put _ (some 14) _) _
              simp only [Act.put, List.setIfInBounds_toArray, List.set_cons_zero, List.set_cons_succ]
              refine wpAnyH_done (by kernel_rfl) ?_ _
              have hb13 := below_then (below_then (Below.drew (Below.refl w9.heap.size w9)) (litI_below _ [ia, ib])) hb12
              obtain ⟨dad, dB, dc2, rfl, -, dcell, -⟩ := hda 1 _ rfl
              have HOY := Lib.hid (HOY9.out.grow hb13)
              have HBY : Hid (Below yb w6 w12) := HBY9.out.trans (hb13.mono (Nat.le_trans (Nat.le_of_eq HYBE.out.symm) HBY9.out.size))
              have HRA : Hid (w12.rangeAt yg (0 + qn * 4) ia.cells) := Lib.hid (range_keepI HRA1.out HYG9.out hb13)
              have HRB : Hid (w12.rangeAt yg (0 + (qn + 1) * 4) ib.cells) := Lib.hid (range_keepI HRB1.out HYG9.out hb13)
              have HYB : Hid (yb ≤ w12.heap.size) := Nat.le_trans (Nat.le_of_eq HYBE.out.symm) HBY.out.size
              have HQL : Hid (qn < ys.length) := by show _ < _; omega
              have HQL1 : Hid (qn + 1 < (ys.set qn ib).length) := by show _ < _; rw [List.length_set]; omega
              clear hb12 hb13 hda HOY9 HBY9 HRA1 HRB1
              by_cases hdp : depF ia ib = true
              · have edr : dr = [0] := by rw [← HDR.out, if_pos hdp]
                subst edr
                have dc1 : w12.cell? ⟨dad.block, dad.off + 1, none⟩ = some (.slice dB 1 dc2) := dcell
                clear dcell
                go_wp2_with fail
                go_roundw
                case rel => exact ⟨k + 1, ys, by go_num, by omega, by omega, HOY, HTR, HBY⟩
                case measure => simp [intOf]; omega
              · have hdp : depF ia ib = false := by simpa using hdp
                have edr : dr = [] := by rw [← HDR.out, hdp]; rfl
                subst edr
                have dc1 : w12.cell? ⟨dad.block, dad.off + 1, none⟩ = some (.slice dB 0 dc2) := dcell
                have HTn := Lib.hid (HTR.out.swap HIA.out HIB.out HNE.out hdp)
                clear dcell hdp
                go_upto_region 12 with fail
                refine wp_region_held (S := fun _ => True) (by kernel_rfl) ?_
                show wpAnyH Tryd.prog .any _ _ _ 18 #[false, false, false, false, false, false, false, false, false, false, false, false, false, false, false, false, false, false] _ _
                refine wpAnyH_take (i := 0) (oi := _) (v := (.slice (some ⟨yg, 0, none⟩) cn yc)) rfl (by kernel_rfl) (by kernel_rfl) (by kernel_rfl) (fun _ _ _ h => h) (Or.inl ⟨by kernel_rfl, fun w _ => rfl⟩) trivial ?_
                show wpAnyH Tryd.prog .any _ _ _ _ _ (Act.put _ (some 99) _) _
                simp only [Act.put, List.setIfInBounds_toArray, List.set_cons_zero, List.set_cons_succ]
                refine wpAnyH_take (i := 1) (oi := _) (v := (.int .i64 (qn : Int))) rfl (by kernel_rfl) (by kernel_rfl) (by kernel_rfl) (fun _ _ _ h => h) (Or.inl ⟨by kernel_rfl, fun w _ => rfl⟩) trivial ?_
                show wpAnyH Tryd.prog .any _ _ _ _ _ (Act.put _ (some 100) _) _
                simp only [Act.put, List.setIfInBounds_toArray, List.set_cons_zero, List.set_cons_succ]
                refine wpAnyH_take (i := 2) (oi := _) (v := (.slice (some ⟨yg, 0, none⟩) cn yc)) rfl (by kernel_rfl) (by kernel_rfl) (by kernel_rfl) (fun _ _ _ h => h) (Or.inl ⟨by kernel_rfl, fun w _ => rfl⟩) trivial ?_
                show wpAnyH Tryd.prog .any _ _ _ _ _ (Act.put _ (some 101) _) _
                simp only [Act.put, List.setIfInBounds_toArray, List.set_cons_zero, List.set_cons_succ]
                refine wpAnyH_take (i := 3) (oi := _) (v := (.int .i64 (qn : Int))) rfl (by kernel_rfl) (by kernel_rfl) (by kernel_rfl) (fun _ _ _ h => h) (Or.inl ⟨by kernel_rfl, fun w _ => rfl⟩) trivial ?_
                show wpAnyH Tryd.prog .any _ _ _ _ _ (Act.put _ (some 102) _) _
                simp only [Act.put, List.setIfInBounds_toArray, List.set_cons_zero, List.set_cons_succ]
                refine wpAnyH_take (i := 5) (oi := _) (v := (.slice (some ⟨yg, 0, none⟩) cn yc)) rfl (by kernel_rfl) (by kernel_rfl) (by kernel_rfl) (fun _ _ _ h => h) (Or.inl ⟨by kernel_rfl, fun w _ => rfl⟩) trivial ?_
                show wpAnyH Tryd.prog .any _ _ _ _ _ (Act.put _ (some 104) _) _
                simp only [Act.put, List.setIfInBounds_toArray, List.set_cons_zero, List.set_cons_succ]
                refine wpAnyH_take (i := 6) (oi := _) (v := (.int .i64 (qn : Int))) rfl (by kernel_rfl) (by kernel_rfl) (by kernel_rfl) (fun _ _ _ h => h) (Or.inl ⟨by kernel_rfl, fun w _ => rfl⟩) trivial ?_
                show wpAnyH Tryd.prog .any _ _ _ _ _ (Act.put _ (some 105) _) _
                simp only [Act.put, List.setIfInBounds_toArray, List.set_cons_zero, List.set_cons_succ]
                refine wpAnyH_take (i := 10) (oi := _) (v := (.slice (some ⟨yg, 0, none⟩) cn yc)) rfl (by kernel_rfl) (by kernel_rfl) (by kernel_rfl) (fun _ _ _ h => h) (Or.inl ⟨by kernel_rfl, fun w _ => rfl⟩) trivial ?_
                show wpAnyH Tryd.prog .any _ _ _ _ _ (Act.put _ (some 109) _) _
                simp only [Act.put, List.setIfInBounds_toArray, List.set_cons_zero, List.set_cons_succ]
                refine wpAnyH_take (i := 11) (oi := _) (v := (.int .i64 (qn : Int))) rfl (by kernel_rfl) (by kernel_rfl) (by kernel_rfl) (fun _ _ _ h => h) (Or.inl ⟨by kernel_rfl, fun w _ => rfl⟩) trivial ?_
                show wpAnyH Tryd.prog .any _ _ _ _ _ (Act.put _ (some 110) _) _
                simp only [Act.put, List.setIfInBounds_toArray, List.set_cons_zero, List.set_cons_succ]
                refine wpAnyH_take (i := 4) (oi := _) (v := (.int .i64 ((qn + 1 : Nat) : Int))) rfl (by kernel_rfl) (by kernel_rfl) (by kernel_rfl) (fun _ _ _ h => h) (Or.inl ⟨by kernel_rfl, fun w _ => by simp [execOp, go_sem, Act.put, Act.eval, wq]⟩) trivial ?_
                show wpAnyH Tryd.prog .any _ _ _ _ _ (Act.put _ (some 103) _) _
                simp only [Act.put, List.setIfInBounds_toArray, List.set_cons_zero, List.set_cons_succ]
                refine wpAnyH_take (i := 7) (oi := _) (v := (.int .i64 ((qn + 1 : Nat) : Int))) rfl (by kernel_rfl) (by kernel_rfl) (by kernel_rfl) (fun _ _ _ h => h) (Or.inl ⟨by kernel_rfl, fun w _ => by simp [execOp, go_sem, Act.put, Act.eval, wq]⟩) trivial ?_
                show wpAnyH Tryd.prog .any _ _ _ _ _ (Act.put _ (some 106) _) _
                simp only [Act.put, List.setIfInBounds_toArray, List.set_cons_zero, List.set_cons_succ]
                refine wpAnyH_take (i := 8) (oi := _) (v := (.pointer (some (Addr.add ⟨yg, 0, none⟩ ((qn + 1) * 4))))) rfl (by kernel_rfl) (by kernel_rfl) (by kernel_rfl) (fun _ _ _ h => h) (Or.inl ⟨by kernel_rfl, fun w _ => by simp [execOp, go_sem, Act.put, Act.eval, qa, qb, qe, qf]⟩) trivial ?_
                show wpAnyH Tryd.prog .any _ _ _ _ _ (Act.put _ (some 107) _) _
                simp only [Act.put, List.setIfInBounds_toArray, List.set_cons_zero, List.set_cons_succ]
                refine wpAnyH_take (i := 12) (oi := _) (v := (.pointer (some (Addr.add ⟨yg, 0, none⟩ (qn * 4))))) rfl (by kernel_rfl) (by kernel_rfl) (by kernel_rfl) (fun _ _ _ h => h) (Or.inl ⟨by kernel_rfl, fun w _ => by simp [execOp, go_sem, Act.put, Act.eval, qa, qb, qe, qf]⟩) trivial ?_
                show wpAnyH Tryd.prog .any _ _ _ _ _ (Act.put _ (some 111) _) _
                simp only [Act.put, List.setIfInBounds_toArray, List.set_cons_zero, List.set_cons_succ]
                refine anyX_two (i := 9) (j := 13) rfl rfl (by kernel_rfl) rfl rfl (fun cs b h => by cases h) (fun cs b h => by cases h) (fun d h => by cases h; exact of_decide_eq_true rfl) (fun d h => by cases h; exact of_decide_eq_true rfl) ?_ ?_
                · refine ld_insA (ad := ⟨yg, 0, none⟩) (n := (qn + 1) * 4) (i := ib) rfl HRB.out rfl _ rfl rfl ?_
                  refine ⟨rfl, _, rfl, trivial, ?_⟩
                  simp only [Act.put, List.setIfInBounds_toArray, List.set_cons_zero, List.set_cons_succ]
                  refine anyX_one (i := 13) rfl (by kernel_rfl) rfl (fun cs b h => by cases h) (fun d h => by cases h; exact of_decide_eq_true rfl) ?_
                  refine ld_insA (ad := ⟨yg, 0, none⟩) (n := qn * 4) (i := ia) rfl HRA.out rfl _ rfl rfl ?_
                  refine ⟨rfl, _, rfl, trivial, ?_⟩
                  simp only [Act.put, List.setIfInBounds_toArray, List.set_cons_zero, List.set_cons_succ]
                  refine wpAnyH_take (i := 14) (oi := _) (v := (.pointer (some (Addr.add ⟨yg, 0, none⟩ (qn * 4))))) rfl (by kernel_rfl) (by kernel_rfl) (by kernel_rfl) (fun _ _ _ h => h) (Or.inl ⟨by kernel_rfl, fun w _ => by simp [execOp, go_sem, Act.put, Act.eval, qa, qb, qe, qf]⟩) trivial ?_
                  show wpAnyH Tryd.prog .any _ _ _ _ _ (Act.put _ (some 113) _) _
                  simp only [Act.put, List.setIfInBounds_toArray, List.set_cons_zero, List.set_cons_succ]
                  refine anyX_one (i := 15) rfl (by kernel_rfl) rfl (fun cs b h => by cases h) (fun d h => by cases h) ?_
                  refine st_insR (k := qn) (i := ib) HOY.out HQL.out HOKB.out rfl _ _ rfl rfl rfl ?_
                  intro wA hA gA
                  refine ⟨rfl, undef, rfl, trivial, ?_⟩
                  simp only [Act.put, List.setIfInBounds_toArray, List.set_cons_zero, List.set_cons_succ]
                  refine wpAnyH_take (i := 16) (oi := _) (v := (.pointer (some (Addr.add ⟨yg, 0, none⟩ ((qn + 1) * 4))))) rfl (by kernel_rfl) (by kernel_rfl) (by kernel_rfl) (fun _ _ _ h => h) (Or.inl ⟨by kernel_rfl, fun w _ => by simp [execOp, go_sem, Act.put, Act.eval, qa, qb, qe, qf]⟩) trivial ?_
                  show wpAnyH Tryd.prog .any _ _ _ _ _ (Act.put _ (some 114) _) _
                  simp only [Act.put, List.setIfInBounds_toArray, List.set_cons_zero, List.set_cons_succ]
                  refine anyX_one (i := 17) rfl (by kernel_rfl) rfl (fun cs b h => by cases h) (fun d h => by cases h) ?_
                  refine st_insR (k := qn + 1) (i := ia) hA HQL1.out HOKA.out rfl _ _ rfl rfl rfl ?_
                  intro wB hB gB
                  refine ⟨rfl, undef, rfl, trivial, ?_⟩
                  simp only [Act.put, List.setIfInBounds_toArray, List.set_cons_zero, List.set_cons_succ]
                  refine wpAnyH_done (by kernel_rfl) ?_ _
                  rw [swp_get HIA.out HIB.out] at hB
                  have HYn := Lib.hid hB
                  have HBn : Hid (Below yb w6 wB) := ((Below.drew HBY.out).grown gA HYB.out (fun j e => by injection e with e; have := HOY.out.block; omega)).grown gB (Nat.le_trans HYB.out gA.size) (fun j e => by injection e with e; have := HOY.out.block; omega)
                  clear hA gA hB gB
                  go_wp2_with fail
                  go_roundw
                  case rel => exact ⟨k + 1, _, by go_num, by omega, by omega, HYn, HTn, HBn⟩
                  case measure => simp [intOf]; omega
                · refine ld_insA (ad := ⟨yg, 0, none⟩) (n := qn * 4) (i := ia) rfl HRA.out rfl _ rfl rfl ?_
                  refine ⟨rfl, _, rfl, trivial, ?_⟩
                  simp only [Act.put, List.setIfInBounds_toArray, List.set_cons_zero, List.set_cons_succ]
                  refine anyX_one (i := 9) rfl (by kernel_rfl) rfl (fun cs b h => by cases h) (fun d h => by cases h; exact of_decide_eq_true rfl) ?_
                  refine ld_insA (ad := ⟨yg, 0, none⟩) (n := (qn + 1) * 4) (i := ib) rfl HRB.out rfl _ rfl rfl ?_
                  refine ⟨rfl, _, rfl, trivial, ?_⟩
                  simp only [Act.put, List.setIfInBounds_toArray, List.set_cons_zero, List.set_cons_succ]
                  refine wpAnyH_take (i := 14) (oi := _) (v := (.pointer (some (Addr.add ⟨yg, 0, none⟩ (qn * 4))))) rfl (by kernel_rfl) (by kernel_rfl) (by kernel_rfl) (fun _ _ _ h => h) (Or.inl ⟨by kernel_rfl, fun w _ => by simp [execOp, go_sem, Act.put, Act.eval, qa, qb, qe, qf]⟩) trivial ?_
                  show wpAnyH Tryd.prog .any _ _ _ _ _ (Act.put _ (some 113) _) _
                  simp only [Act.put, List.setIfInBounds_toArray, List.set_cons_zero, List.set_cons_succ]
                  refine anyX_one (i := 15) rfl (by kernel_rfl) rfl (fun cs b h => by cases h) (fun d h => by cases h) ?_
                  refine st_insR (k := qn) (i := ib) HOY.out HQL.out HOKB.out rfl _ _ rfl rfl rfl ?_
                  intro wA hA gA
                  refine ⟨rfl, undef, rfl, trivial, ?_⟩
                  simp only [Act.put, List.setIfInBounds_toArray, List.set_cons_zero, List.set_cons_succ]
                  refine wpAnyH_take (i := 16) (oi := _) (v := (.pointer (some (Addr.add ⟨yg, 0, none⟩ ((qn + 1) * 4))))) rfl (by kernel_rfl) (by kernel_rfl) (by kernel_rfl) (fun _ _ _ h => h) (Or.inl ⟨by kernel_rfl, fun w _ => by simp [execOp, go_sem, Act.put, Act.eval, qa, qb, qe, qf]⟩) trivial ?_
                  show wpAnyH Tryd.prog .any _ _ _ _ _ (Act.put _ (some 114) _) _
                  simp only [Act.put, List.setIfInBounds_toArray, List.set_cons_zero, List.set_cons_succ]
                  refine anyX_one (i := 17) rfl (by kernel_rfl) rfl (fun cs b h => by cases h) (fun d h => by cases h) ?_
                  refine st_insR (k := qn + 1) (i := ia) hA HQL1.out HOKA.out rfl _ _ rfl rfl rfl ?_
                  intro wB hB gB
                  refine ⟨rfl, undef, rfl, trivial, ?_⟩
                  simp only [Act.put, List.setIfInBounds_toArray, List.set_cons_zero, List.set_cons_succ]
                  refine wpAnyH_done (by kernel_rfl) ?_ _
                  rw [swp_get HIA.out HIB.out] at hB
                  have HYn := Lib.hid hB
                  have HBn : Hid (Below yb w6 wB) := ((Below.drew HBY.out).grown gA HYB.out (fun j e => by injection e with e; have := HOY.out.block; omega)).grown gB (Nat.le_trans HYB.out gA.size) (fun j e => by injection e with e; have := HOY.out.block; omega)
                  clear hA gA hB gB
                  go_wp2_with fail
                  go_roundw
                  case rel => exact ⟨k + 1, _, by go_num, by omega, by omega, HYn, HTn, HBn⟩
                  case measure => simp [intOf]; omega

            · refine ld_insA (ad := ⟨yg, 0, none⟩) (n := (qn + 1) * 4) (i := ib) rfl HRB.out rfl _ rfl rfl ?_
              refine ⟨rfl, _, rfl, trivial, ?_⟩
              simp only [Act.put, List.setIfInBounds_toArray, List.set_cons_zero, List.set_cons_succ]
              refine anyX_one (i := 3) rfl (by kernel_rfl) rfl (fun cs b h => by cases h) (fun d h => by cases h; exact of_decide_eq_true rfl) ?_
              refine ld_insA (ad := ⟨yg, 0, none⟩) (n := qn * 4) (i := ia) rfl HRA.out rfl _ rfl rfl ?_
              refine ⟨rfl, _, rfl, trivial, ?_⟩
              simp only [Act.put, List.setIfInBounds_toArray, List.set_cons_zero, List.set_cons_succ]
              refine anyX_one (i := 9) rfl (by kernel_rfl) rfl (fun cs b h => by cases h) (fun d h => by cases h; exact of_decide_eq_true rfl) ?_
              refine bld_ins2 ia ib rfl _ _ rfl rfl rfl ?_
              refine ⟨rfl, _, rfl, trivial, ?_⟩
              simp only [Act.put, List.setIfInBounds_toArray, List.set_cons_zero, List.set_cons_succ]
              refine anyX_one (i := 10) rfl (by kernel_rfl) rfl (fun cs b h => by cases h) (fun d h => by cases h; exact of_decide_eq_true rfl) ?_
              refine wp_call1 HFD.out HFN.out HFB.out rfl rfl rfl #[.slice (some ⟨w9.drew.heap.size, 0, none⟩) 2 2] rfl (CD2.out w9.drew) ?_
              rintro e1 w12 ⟨DA, dc, rfl, hda, hb12⟩
              refine ⟨_, rfl, ?_⟩
              refine ⟨rfl, _, rfl, trivial, ?_⟩
              simp only [Act.put, List.setIfInBounds_toArray, List.set_cons_zero, List.set_cons_succ]
              refine wpAnyH_take (i := 11) (oi := _) (v := (.tuple #[.slice DA 2 dc, .int .i64 0])) rfl (by kernel_rfl) (by kernel_rfl) (by kernel_rfl) (fun _ _ _ h => h) (Or.inl ⟨by kernel_rfl, fun w _ => rfl⟩) trivial ?_
              show wpAnyH Tryd.prog .any _ _ _ _ _ (Act.put _ (some 76) _) _
              simp only [Act.put, List.setIfInBounds_toArray, List.set_cons_zero, List.set_cons_succ]
              refine wpAnyH_take (i := 12) (oi := _) (v := (.slice DA 2 dc)) rfl (by kernel_rfl) (by kernel_rfl) (by kernel_rfl) (fun _ _ _ h => h) (Or.inl ⟨by kernel_rfl, fun w _ => by simp [execOp, go_sem, Act.put, Act.eval]⟩) trivial ?_
              show wpAnyH Tryd.prog .any _ _ _ _ _ (Act.put _ (some 88) _) _
              simp only [Act.put, List.setIfInBounds_toArray, List.set_cons_zero, List.set_cons_succ]
              refine wpAnyH_take (i := 13) (oi := _) (v := (.int .i64 0)) rfl (by kernel_rfl) (by kernel_rfl) (by kernel_rfl) (fun _ _ _ h => h) (Or.inl ⟨by kernel_rfl, fun w _ => by simp [execOp, go_sem, Act.put, Act.eval]⟩) trivial ?_
              show wpAnyH Tryd.prog .any _ _ _ _ _ (Act.put _ (some 89) _) _
              simp only [Act.put, List.setIfInBounds_toArray, List.set_cons_zero, List.set_cons_succ]
              refine wpAnyH_take (i := 14) (oi := _) (v := (.slice DA 2 dc)) rfl (by kernel_rfl) (by kernel_rfl) (by kernel_rfl) (fun _ _ _ h => h) (Or.inl ⟨by kernel_rfl, fun w _ => by simp [execOp, go_sem, Act.put, Act.eval]⟩) trivial ?_
              show wpAnyH Tryd.prog .any _ _ _ _ _ (Act.put _ (some 13) _) _
              simp only [Act.put, List.setIfInBounds_toArray, List.set_cons_zero, List.set_cons_succ]
              refine wpAnyH_take (i := 15) (oi := _) (v := (.int .i64 0)) rfl (by kernel_rfl) (by kernel_rfl) (by kernel_rfl) (fun _ _ _ h => h) (Or.inl ⟨by kernel_rfl, fun w _ => by simp [execOp, go_sem, Act.put, Act.eval]⟩) trivial ?_
              show wpAnyH Tryd.prog .any _ _ _ _ _ (Act.put _ (some 14) _) _
              simp only [Act.put, List.setIfInBounds_toArray, List.set_cons_zero, List.set_cons_succ]
              refine wpAnyH_done (by kernel_rfl) ?_ _
              have hb13 := below_then (below_then (Below.drew (Below.refl w9.heap.size w9)) (litI_below _ [ia, ib])) hb12
              obtain ⟨dad, dB, dc2, rfl, -, dcell, -⟩ := hda 1 _ rfl
              have HOY := Lib.hid (HOY9.out.grow hb13)
              have HBY : Hid (Below yb w6 w12) := HBY9.out.trans (hb13.mono (Nat.le_trans (Nat.le_of_eq HYBE.out.symm) HBY9.out.size))
              have HRA : Hid (w12.rangeAt yg (0 + qn * 4) ia.cells) := Lib.hid (range_keepI HRA1.out HYG9.out hb13)
              have HRB : Hid (w12.rangeAt yg (0 + (qn + 1) * 4) ib.cells) := Lib.hid (range_keepI HRB1.out HYG9.out hb13)
              have HYB : Hid (yb ≤ w12.heap.size) := Nat.le_trans (Nat.le_of_eq HYBE.out.symm) HBY.out.size
              have HQL : Hid (qn < ys.length) := by show _ < _; omega
              have HQL1 : Hid (qn + 1 < (ys.set qn ib).length) := by show _ < _; rw [List.length_set]; omega
              clear hb12 hb13 hda HOY9 HBY9 HRA1 HRB1
              by_cases hdp : depF ia ib = true
              · have edr : dr = [0] := by rw [← HDR.out, if_pos hdp]
                subst edr
                have dc1 : w12.cell? ⟨dad.block, dad.off + 1, none⟩ = some (.slice dB 1 dc2) := dcell
                clear dcell
                go_wp2_with fail
                go_roundw
                case rel => exact ⟨k + 1, ys, by go_num, by omega, by omega, HOY, HTR, HBY⟩
                case measure => simp [intOf]; omega
              · have hdp : depF ia ib = false := by simpa using hdp
                have edr : dr = [] := by rw [← HDR.out, hdp]; rfl
                subst edr
                have dc1 : w12.cell? ⟨dad.block, dad.off + 1, none⟩ = some (.slice dB 0 dc2) := dcell
                have HTn := Lib.hid (HTR.out.swap HIA.out HIB.out HNE.out hdp)
                clear dcell hdp
                go_upto_region 12 with fail
                refine wp_region_held (S := fun _ => True) (by kernel_rfl) ?_
                show wpAnyH Tryd.prog .any _ _ _ 18 #[false, false, false, false, false, false, false, false, false, false, false, false, false, false, false, false, false, false] _ _
                refine wpAnyH_take (i := 0) (oi := _) (v := (.slice (some ⟨yg, 0, none⟩) cn yc)) rfl (by kernel_rfl) (by kernel_rfl) (by kernel_rfl) (fun _ _ _ h => h) (Or.inl ⟨by kernel_rfl, fun w _ => rfl⟩) trivial ?_
                show wpAnyH Tryd.prog .any _ _ _ _ _ (Act.put _ (some 99) _) _
                simp only [Act.put, List.setIfInBounds_toArray, List.set_cons_zero, List.set_cons_succ]
                refine wpAnyH_take (i := 1) (oi := _) (v := (.int .i64 (qn : Int))) rfl (by kernel_rfl) (by kernel_rfl) (by kernel_rfl) (fun _ _ _ h => h) (Or.inl ⟨by kernel_rfl, fun w _ => rfl⟩) trivial ?_
                show wpAnyH Tryd.prog .any _ _ _ _ _ (Act.put _ (some 100) _) _
                simp only [Act.put, List.setIfInBounds_toArray, List.set_cons_zero, List.set_cons_succ]
                refine wpAnyH_take (i := 2) (oi := _) (v := (.slice (some ⟨yg, 0, none⟩) cn yc)) rfl (by kernel_rfl) (by kernel_rfl) (by kernel_rfl) (fun _ _ _ h => h) (Or.inl ⟨by kernel_rfl, fun w _ => rfl⟩) trivial ?_
                show wpAnyH Tryd.prog .any _ _ _ _ _ (Act.put _ (some 101) _) _
                simp only [Act.put, List.setIfInBounds_toArray, List.set_cons_zero, List.set_cons_succ]
                refine wpAnyH_take (i := 3) (oi := _) (v := (.int .i64 (qn : Int))) rfl (by kernel_rfl) (by kernel_rfl) (by kernel_rfl) (fun _ _ _ h => h) (Or.inl ⟨by kernel_rfl, fun w _ => rfl⟩) trivial ?_
                show wpAnyH Tryd.prog .any _ _ _ _ _ (Act.put _ (some 102) _) _
                simp only [Act.put, List.setIfInBounds_toArray, List.set_cons_zero, List.set_cons_succ]
                refine wpAnyH_take (i := 5) (oi := _) (v := (.slice (some ⟨yg, 0, none⟩) cn yc)) rfl (by kernel_rfl) (by kernel_rfl) (by kernel_rfl) (fun _ _ _ h => h) (Or.inl ⟨by kernel_rfl, fun w _ => rfl⟩) trivial ?_
                show wpAnyH Tryd.prog .any _ _ _ _ _ (Act.put _ (some 104) _) _
                simp only [Act.put, List.setIfInBounds_toArray, List.set_cons_zero, List.set_cons_succ]
                refine wpAnyH_take (i := 6) (oi := _) (v := (.int .i64 (qn : Int))) rfl (by kernel_rfl) (by kernel_rfl) (by kernel_rfl) (fun _ _ _ h => h) (Or.inl ⟨by kernel_rfl, fun w _ => rfl⟩) trivial ?_
                show wpAnyH Tryd.prog .any _ _ _ _ _ (Act.put _ (some 105) _) _
                simp only [Act.put, List.setIfInBounds_toArray, List.set_cons_zero, List.set_cons_succ]
                refine wpAnyH_take (i := 10) (oi := _) (v := (.slice (some ⟨yg, 0, none⟩) cn yc)) rfl (by kernel_rfl) (by kernel_rfl) (by kernel_rfl) (fun _ _ _ h => h) (Or.inl ⟨by kernel_rfl, fun w _ => rfl⟩) trivial ?_
                show wpAnyH Tryd.prog .any _ _ _ _ _ (Act.put _ (some 109) _) _
                simp only [Act.put, List.setIfInBounds_toArray, List.set_cons_zero, List.set_cons_succ]
                refine wpAnyH_take (i := 11) (oi := _) (v := (.int .i64 (qn : Int))) rfl (by kernel_rfl) (by kernel_rfl) (by kernel_rfl) (fun _ _ _ h => h) (Or.inl ⟨by kernel_rfl, fun w _ => rfl⟩) trivial ?_
                show wpAnyH Tryd.prog .any _ _ _ _ _ (Act.put _ (some 110) _) _
                simp only [Act.put, List.setIfInBounds_toArray, List.set_cons_zero, List.set_cons_succ]
                refine wpAnyH_take (i := 4) (oi := _) (v := (.int .i64 ((qn + 1 : Nat) : Int))) rfl (by kernel_rfl) (by kernel_rfl) (by kernel_rfl) (fun _ _ _ h => h) (Or.inl ⟨by kernel_rfl, fun w _ => by simp [execOp, go_sem, Act.put, Act.eval, wq]⟩) trivial ?_
                show wpAnyH Tryd.prog .any _ _ _ _ _ (Act.put _ (some 103) _) _
                simp only [Act.put, List.setIfInBounds_toArray, List.set_cons_zero, List.set_cons_succ]
                refine wpAnyH_take (i := 7) (oi := _) (v := (.int .i64 ((qn + 1 : Nat) : Int))) rfl (by kernel_rfl) (by kernel_rfl) (by kernel_rfl) (fun _ _ _ h => h) (Or.inl ⟨by kernel_rfl, fun w _ => by simp [execOp, go_sem, Act.put, Act.eval, wq]⟩) trivial ?_
                show wpAnyH Tryd.prog .any _ _ _ _ _ (Act.put _ (some 106) _) _
                simp only [Act.put, List.setIfInBounds_toArray, List.set_cons_zero, List.set_cons_succ]
                refine wpAnyH_take (i := 8) (oi := _) (v := (.pointer (some (Addr.add ⟨yg, 0, none⟩ ((qn + 1) * 4))))) rfl (by kernel_rfl) (by kernel_rfl) (by kernel_rfl) (fun _ _ _ h => h) (Or.inl ⟨by kernel_rfl, fun w _ => by simp [execOp, go_sem, Act.put, Act.eval, qa, qb, qe, qf]⟩) trivial ?_
                show wpAnyH Tryd.prog .any _ _ _ _ _ (Act.put _ (some 107) _) _
                simp only [Act.put, List.setIfInBounds_toArray, List.set_cons_zero, List.set_cons_succ]
                refine wpAnyH_take (i := 12) (oi := _) (v := (.pointer (some (Addr.add ⟨yg, 0, none⟩ (qn * 4))))) rfl (by kernel_rfl) (by kernel_rfl) (by kernel_rfl) (fun _ _ _ h => h) (Or.inl ⟨by kernel_rfl, fun w _ => by simp [execOp, go_sem, Act.put, Act.eval, qa, qb, qe, qf]⟩) trivial ?_
                show wpAnyH Tryd.prog .any _ _ _ _ _ (Act.put _ (some 111) _) _
                simp only [Act.put, List.setIfInBounds_toArray, List.set_cons_zero, List.set_cons_succ]
                refine anyX_two (i := 9) (j := 13) rfl rfl (by kernel_rfl) rfl rfl (fun cs b h => by cases h) (fun cs b h => by cases h) (fun d h => by cases h; exact of_decide_eq_true rfl) (fun d h => by cases h; exact of_decide_eq_true rfl) ?_ ?_
                · refine ld_insA (ad := ⟨yg, 0, none⟩) (n := (qn + 1) * 4) (i := ib) rfl HRB.out rfl _ rfl rfl ?_
                  refine ⟨rfl, _, rfl, trivial, ?_⟩
                  simp only [Act.put, List.setIfInBounds_toArray, List.set_cons_zero, List.set_cons_succ]
                  refine anyX_one (i := 13) rfl (by kernel_rfl) rfl (fun cs b h => by cases h) (fun d h => by cases h; exact of_decide_eq_true rfl) ?_
                  refine ld_insA (ad := ⟨yg, 0, none⟩) (n := qn * 4) (i := ia) rfl HRA.out rfl _ rfl rfl ?_
                  refine ⟨rfl, _, rfl, trivial, ?_⟩
                  simp only [Act.put, List.setIfInBounds_toArray, List.set_cons_zero, List.set_cons_succ]
                  refine wpAnyH_take (i := 14) (oi := _) (v := (.pointer (some (Addr.add ⟨yg, 0, none⟩ (qn * 4))))) rfl (by kernel_rfl) (by kernel_rfl) (by kernel_rfl) (fun _ _ _ h => h) (Or.inl ⟨by kernel_rfl, fun w _ => by simp [execOp, go_sem, Act.put, Act.eval, qa, qb, qe, qf]⟩) trivial ?_
                  show wpAnyH Tryd.prog .any _ _ _ _ _ (Act.put _ (some 113) _) _
                  simp only [Act.put, List.setIfInBounds_toArray, List.set_cons_zero, List.set_cons_succ]
                  refine anyX_one (i := 15) rfl (by kernel_rfl) rfl (fun cs b h => by cases h) (fun d h => by cases h) ?_
                  refine st_insR (k := qn) (i := ib) HOY.out HQL.out HOKB.out rfl _ _ rfl rfl rfl ?_
                  intro wA hA gA
                  refine ⟨rfl, undef, rfl, trivial, ?_⟩
                  simp only [Act.put, List.setIfInBounds_toArray, List.set_cons_zero, List.set_cons_succ]
                  refine wpAnyH_take (i := 16) (oi := _) (v := (.pointer (some (Addr.add ⟨yg, 0, none⟩ ((qn + 1) * 4))))) rfl (by kernel_rfl) (by kernel_rfl) (by kernel_rfl) (fun _ _ _ h => h) (Or.inl ⟨by kernel_rfl, fun w _ => by simp [execOp, go_sem, Act.put, Act.eval, qa, qb, qe, qf]⟩) trivial ?_
                  show wpAnyH Tryd.prog .any _ _ _ _ _ (Act.put _ (some 114) _) _
                  simp only [Act.put, List.setIfInBounds_toArray, List.set_cons_zero, List.set_cons_succ]
                  refine anyX_one (i := 17) rfl (by kernel_rfl) rfl (fun cs b h => by cases h) (fun d h => by cases h) ?_
                  refine st_insR (k := qn + 1) (i := ia) hA HQL1.out HOKA.out rfl _ _ rfl rfl rfl ?_
                  intro wB hB gB
                  refine ⟨rfl, undef, rfl, trivial, ?_⟩
                  simp only [Act.put, List.setIfInBounds_toArray, List.set_cons_zero, List.set_cons_succ]
                  refine wpAnyH_done (by kernel_rfl) ?_ _
                  rw [swp_get HIA.out HIB.out] at hB
                  have HYn := Lib.hid hB
                  have HBn : Hid (Below yb w6 wB) := ((Below.drew HBY.out).grown gA HYB.out (fun j e => by injection e with e; have := HOY.out.block; omega)).grown gB (Nat.le_trans HYB.out gA.size) (fun j e => by injection e with e; have := HOY.out.block; omega)
                  clear hA gA hB gB
                  go_wp2_with fail
                  go_roundw
                  case rel => exact ⟨k + 1, _, by go_num, by omega, by omega, HYn, HTn, HBn⟩
                  case measure => simp [intOf]; omega
                · refine ld_insA (ad := ⟨yg, 0, none⟩) (n := qn * 4) (i := ia) rfl HRA.out rfl _ rfl rfl ?_
                  refine ⟨rfl, _, rfl, trivial, ?_⟩
                  simp only [Act.put, List.setIfInBounds_toArray, List.set_cons_zero, List.set_cons_succ]
                  refine anyX_one (i := 9) rfl (by kernel_rfl) rfl (fun cs b h => by cases h) (fun d h => by cases h; exact of_decide_eq_true rfl) ?_
                  refine ld_insA (ad := ⟨yg, 0, none⟩) (n := (qn + 1) * 4) (i := ib) rfl HRB.out rfl _ rfl rfl ?_
                  refine ⟨rfl, _, rfl, trivial, ?_⟩
                  simp only [Act.put, List.setIfInBounds_toArray, List.set_cons_zero, List.set_cons_succ]
                  refine wpAnyH_take (i := 14) (oi := _) (v := (.pointer (some (Addr.add ⟨yg, 0, none⟩ (qn * 4))))) rfl (by kernel_rfl) (by kernel_rfl) (by kernel_rfl) (fun _ _ _ h => h) (Or.inl ⟨by kernel_rfl, fun w _ => by simp [execOp, go_sem, Act.put, Act.eval, qa, qb, qe, qf]⟩) trivial ?_
                  show wpAnyH Tryd.prog .any _ _ _ _ _ (Act.put _ (some 113) _) _
                  simp only [Act.put, List.setIfInBounds_toArray, List.set_cons_zero, List.set_cons_succ]
                  refine anyX_one (i := 15) rfl (by kernel_rfl) rfl (fun cs b h => by cases h) (fun d h => by cases h) ?_
                  refine st_insR (k := qn) (i := ib) HOY.out HQL.out HOKB.out rfl _ _ rfl rfl rfl ?_
                  intro wA hA gA
                  refine ⟨rfl, undef, rfl, trivial, ?_⟩
                  simp only [Act.put, List.setIfInBounds_toArray, List.set_cons_zero, List.set_cons_succ]
                  refine wpAnyH_take (i := 16) (oi := _) (v := (.pointer (some (Addr.add ⟨yg, 0, none⟩ ((qn + 1) * 4))))) rfl (by kernel_rfl) (by kernel_rfl) (by kernel_rfl) (fun _ _ _ h => h) (Or.inl ⟨by kernel_rfl, fun w _ => by simp [execOp, go_sem, Act.put, Act.eval, qa, qb, qe, qf]⟩) trivial ?_
                  show wpAnyH Tryd.prog .any _ _ _ _ _ (Act.put _ (some 114) _) _
                  simp only [Act.put, List.setIfInBounds_toArray, List.set_cons_zero, List.set_cons_succ]
                  refine anyX_one (i := 17) rfl (by kernel_rfl) rfl (fun cs b h => by cases h) (fun d h => by cases h) ?_
                  refine st_insR (k := qn + 1) (i := ia) hA HQL1.out HOKA.out rfl _ _ rfl rfl rfl ?_
                  intro wB hB gB
                  refine ⟨rfl, undef, rfl, trivial, ?_⟩
                  simp only [Act.put, List.setIfInBounds_toArray, List.set_cons_zero, List.set_cons_succ]
                  refine wpAnyH_done (by kernel_rfl) ?_ _
                  rw [swp_get HIA.out HIB.out] at hB
                  have HYn := Lib.hid hB
                  have HBn : Hid (Below yb w6 wB) := ((Below.drew HBY.out).grown gA HYB.out (fun j e => by injection e with e; have := HOY.out.block; omega)).grown gB (Nat.le_trans HYB.out gA.size) (fun j e => by injection e with e; have := HOY.out.block; omega)
                  clear hA gA hB gB
                  go_wp2_with fail
                  go_roundw
                  case rel => exact ⟨k + 1, _, by go_num, by omega, by omega, HYn, HTn, HBn⟩
                  case measure => simp [intOf]; omega

        · have x5 : ¬ ((qn + 1 : Nat) : Int) < (cn : Int) := by omega
          have x6 : ¬ (qn : Int) + 1 < (cn : Int) := by omega
          have x7 : (cn : Int) ≤ ((qn + 1 : Nat) : Int) := by omega
          have x8 : decide (((qn + 1 : Nat) : Int) < (cn : Int)) = false := decide_eq_false x5
          have x9 : decide (qn + 1 < cn) = false := decide_eq_false (by omega)
          have x10 : decide ((qn : Int) + 1 < (cn : Int)) = false := decide_eq_false x6
          have x11 : decide (qn < cn - 1) = false := decide_eq_false (by omega)
          clear x5 x6 x7
          go_upto_region 9 with (go_at_call 20; (with_reducible refine (CW.out _).mono ?_); rintro e1 w8 ⟨rfl, rfl⟩)
          refine wp_region_ext (by kernel_rfl) (by kernel_rfl) ?_
          repeat (first
            | (go_big_quiet_step (fail))
            | (refine BigFrame.wpQuiet_skip rfl ?_; simp [Act.put]))
          refine wpQuiet_nil ?_
          rintro w9 ⟨⟨_, hb9⟩, rfl⟩
          have HOY9 := Lib.hid (HOY.out.grow hb9)
          have HBY9 : Hid (Below yb w6 w9) := HBY.out.trans (hb9.mono (Nat.le_trans (Nat.le_of_eq HYBE.out.symm) HBY.out.size))
          clear hb9
          go_wp2_with fail
          go_roundw
          case rel => exact ⟨k + 1, ys, by go_num, by omega, by omega, HOY9, HTR, HBY9⟩
          case measure => simp [intOf]; omega
      · by_cases hk : k < sn
        · have x2 : (k : Int) < (sn : Int) := by omega
          have x3 : ¬ (k : Int) < 20 := by omega
          have x4 : decide ((k : Int) < 20) = false := decide_eq_false x3
          go_wp2_with fail
          go_meet
          exact ⟨ys, HOY, HTR, HBY⟩
        · have x2 : ¬ (k : Int) < (sn : Int) := by omega
          go_wp2_with fail
          go_meet
          exact ⟨ys, HOY, HTR, HBY⟩
  case rest =>
    obtain ⟨ys, HOY, HTR, HBY⟩ := hcut
    have HBW : Hid (Below w.heap.size w wc) := HB06.out.trans (HBY.out.mono (by have := HB06.out.size; have := HYBE.out; omega))
    have HBV : Hid (Below w6.heap.size w6 wc) := by
      have h := HBY.out
      rw [← HYBE.out] at h
      exact Lib.hid h
    have HX6 := Lib.hid (HCA.out.grow HBV.out)
    have HG6 := Lib.hid (HGA.out.grow HBV.out)
    have HY6 : Hid (InsAt wc (some ⟨yg, 0, none⟩) ys) := by
      obtain ⟨Ay, cy, ey, -, hiy⟩ := HOY.out.form
      injection ey with ey ey2 ey3
      rw [ey]; exact Lib.hid hiy
    clear HOY HBY HBV HCA HGA
    go_upto_region 14 with (go_at_call 17; (with_reducible refine (CL.out _ _ _ _ _ _ HBW.out HX6.out HY6.out HTR.out).mono ?_); rintro e1 w8 ⟨rfl, hb8⟩)
    have hb9 := below_then HBW.out hb8
    go_upto_region 15 with (go_at_call 11; (with_reducible refine (CLo.out _ _ _ hb9 (HX6.out.grow hb8)).mono ?_); rintro e1 w9 ⟨rfl, hb10⟩)
    have hb11 := below_then hb9 hb10
    have hb12 := below_then hb8 hb10
    go_upto_region 16 with (go_at_call 21; (with_reducible refine (CT.out _ _ _ _ hb11 (HG6.out.grow hb12) (Tr.greedy cl)).mono ?_); rintro e1 w10 ⟨t1, u1, ht1, rfl, hb13⟩)
    have hb14 := below_then hb11 hb13
    have hb15 := below_then hb12 hb13
    go_upto_region 17 with (go_at_call 21; (with_reducible refine (CT.out _ _ _ _ hb14 (HY6.out.grow hb15) HTR.out).mono ?_); rintro e1 w11 ⟨t2, u2, ht2, rfl, hb16⟩)
    have hb17 := below_then hb14 hb16
    clear hb8 hb9 hb10 hb11 hb12 hb13 hb14 hb15 hb16
    have hd1 : decide (LO ≤ t1) = true := decide_eq_true ht1
    have hd2 : decide (LO ≤ t2) = true := decide_eq_true ht2
    go_wp2_with (go_at_call 6; (with_reducible refine (CK.out _ hb17).mono ?_); rintro e1 w11 ⟨rfl, hb18⟩)
    go_ret
    exact ⟨rfl, below_then hb17 hb18⟩
end Go.Proofs.YtemefigbnjkdoaaDoor
