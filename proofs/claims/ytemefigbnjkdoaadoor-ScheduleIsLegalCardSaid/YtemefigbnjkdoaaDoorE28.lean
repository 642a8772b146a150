/- Legal of the reference of layer 40. Printed by gen_e28.py. -/
import Derived.Test.YtemefigbnjkdoaaDoorE27
set_option linter.unusedVariables false
set_option linter.unusedSimpArgs false
namespace Go.Proofs.YtemefigbnjkdoaaDoor
open Go.RowKit

set_option maxRecDepth 100000 in
set_option maxHeartbeats 16000000 in
theorem r40_Legal (A B : Option Addr) (n c n2 d : Nat) (l m : List Ins) (w : World) (h : InsAt w A l) (h2 : InsAt w B m) (hn : l.length = n) (hn2 : m.length = n2) (h9 : n ≤ 9223372036854775807) (h92 : n2 ≤ 9223372036854775807) :
    Calls Tryd.prog 18 #[.slice A n c, .slice B n2 d] w fun e w' => e = .returned (.tuple #[.bool (legR l m), .int .i64 (legE l m)]) ∧ Below w.heap.size w w' := by
  have CF := Lib.hid (r40_fine A n c l w h hn h9)
  have CG : Hid (∀ w1, Below w.heap.size w w1 → Calls Tryd.prog 24 #[.slice B n2 d] w1 fun e w' => e = .returned (.bool (fineF m)) ∧ Below w1.heap.size w1 w') := fun w1 hb => r40_fine B n2 d m w1 (h2.grow hb) hn2 h92
  by_cases hfl : fineF l = true
  · rw [hfl] at CF
    by_cases hfm : fineF m = true
    · rw [hfm] at CG
      have hr : legR l m = legB l m := by unfold legR; rw [hfl, hfm]; rfl
      have he : legE l m = 0 := by unfold legE; rw [hfl, hfm]; rfl
      rw [hr, he]
      have hn512 : n ≤ 512 := by have := fineF_len hfl; omega
      have hm512 : n2 ≤ 512 := by have := fineF_len hfm; omega
      have HI := Lib.hid h
      have HJ := Lib.hid h2
      have HN := Lib.hid hn
      have HN2 := Lib.hid hn2
      have CP : Hid (∀ w1, Below w.heap.size w w1 → Calls Tryd.prog 31 #[.slice A n c, .slice B n2 d] w1 (RetPr w1 l m)) := fun w1 hb => r40_pairs A B n c n2 d l m w1 (HI.out.grow hb) (HJ.out.grow hb) HN.out HN2.out hn512 hm512
      have e1 : depD l = depsF l := by unfold depD; rw [if_pos hfl]
      have e2 : depE l = 0 := by unfold depE; rw [if_pos hfl]
      have e4 : (depsF l).length = n := by unfold depsF; rw [depT_length, hn]
      have CD : Hid (∀ w1, Below w.heap.size w w1 → Calls Tryd.prog 8 #[.slice A n c] w1 fun e w' => ∃ R rc, e = .returned (.tuple #[.slice R n rc, .int .i64 0]) ∧ IntsL w' R (depsF l) ∧ Below w1.heap.size w1 w') := fun w1 hb => by
        have := r40_Depends A n c l w1 (HI.out.grow hb) HN.out h9
        rw [e1, e2] at this
        refine this.mono fun e w' hr => ?_
        obtain ⟨R, rc, he, hi, hb2⟩ := hr
        rw [e4] at he
        exact ⟨R, rc, he, hi, hb2⟩
      have HAT : Hid (∀ j, j < n → (depsF l)[j]? = some (depRow l j j)) := fun j hj => by
        unfold depsF; rw [HN.out, depT_at hj, if_pos hj]
      by_cases hok : okP l m = true
      · have CP2 : Hid (∀ w1, Below w.heap.size w w1 → Calls Tryd.prog 31 #[.slice A n c, .slice B n2 d] w1 fun e w' => ∃ V pc, e = .returned (.tuple #[.slice V n pc, .bool true]) ∧ Ints w' V (plL l m n) ∧ Below w1.heap.size w1 w') := fun w1 hb => by
          refine (CP.out w1 hb).mono fun e w' hr => ?_
          obtain ⟨⟨V, k, pc, he, hk⟩, hb2⟩ := hr
          obtain ⟨rfl, hi⟩ := hk hok
          rw [hok, HN.out] at he
          rw [HN.out] at hi
          exact ⟨V, pc, he, hi, hb2⟩
        obtain ⟨ho1, ho2⟩ := okP_of hok
        have HO1 := Lib.hid ho1
        have HO2 := Lib.hid ho2
        clear h h2 hn hn2 hfl hfm h92 hr he hm512 CP e1 e2 e4 hok ho1 ho2 HI HJ
        go_enter Tryd.func18, Tryd.ntmps18
        go_upto_region 3 with (first
          | (go_at_call 24; (with_reducible refine CF.out.mono ?_); rintro e1 w1 ⟨rfl, hb1⟩)
          | (go_at_call 24; (with_reducible refine (CG.out _ hb1).mono ?_); rintro e1 w2 ⟨rfl, hb2⟩))
        have hb3 := below_then hb1 hb2
        go_upto_region 6 with (go_at_call 31; (with_reducible refine (CP2.out _ hb3).mono ?_); rintro e1 w4 ⟨PA, pc, rfl, hpi, hb4⟩)
        have hb5 := below_then hb3 hb4
        go_upto_region 8 with (go_at_call 8; (with_reducible refine (CD.out _ hb5).mono ?_); rintro e1 w6 ⟨DA, dc, rfl, hd, hb6⟩)
        have HB0 := Lib.hid (below_then hb5 hb6)
        have HD := Lib.hid hd
        have HPI := Lib.hid (hpi.grow hb6)
        clear hb1 hb2 hb3 hb4 hb5 hb6 hd hpi CF CG CP2 CD
        obtain ⟨W3, hW3⟩ : ∃ W : World, W = w6 := ⟨_, rfl⟩
        rw [← hW3] at HPI HD HB0
        have HB3 : Hid (Below W3.heap.size W3 w6) := by rw [hW3]; exact Lib.hid (Below.refl _ _)
        clear hW3
        go_loopw [10] (fun x wr => ∃ j : Nat, x = .int .i64 j ∧ j ≤ n ∧ Hid (((List.range j).all fun j => (depRow l j j).all (okR l m j)) = true) ∧ Hid (Below W3.heap.size W3 wr)) (fun x _ => n - (intOf x).toNat)
        case atStart => exact ⟨0, rfl, Nat.zero_le _, Lib.hid rfl, HB3⟩
        case round =>
          obtain ⟨j, rfl, hj, HR, HBj⟩ := hrel
          by_cases hlt : j < n
          · obtain ⟨dd, RB, rc, rfl, hdc, hri⟩ := (HD.out.grow HBj.out).row (HAT.out j hlt)
            have HRI := Lib.hid hri
            have HDM : Hid (∀ v ∈ depRow l j j, ∃ i : Nat, i < j ∧ v = i) := fun v hv => by
              obtain ⟨i, h1, h2, -⟩ := depRow_mem hv
              exact ⟨i, h1, h2⟩
            have hdl := depRow_len l j j
            obtain ⟨ds, hds⟩ : ∃ ds, depRow l j j = ds := ⟨_, rfl⟩
            have HDS := Lib.hid hds
            obtain ⟨rn, hrn⟩ : ∃ n, ds.length = n := ⟨_, rfl⟩
            have HRN := Lib.hid hrn
            rw [hds] at HRI HDM hdc hdl
            rw [hrn] at hdc hdl
            have HDC : Hid (wr.cell? (dd.add j) = some (.slice RB rn rc) ∧ dd.block < wr.heap.size) := ⟨hdc, by
              obtain ⟨ad3, A3, c3, e3, s3, -, -⟩ := (HD.out.grow HBj.out) j _ (HAT.out j hlt)
              injection e3 with e3
              subst e3
              exact s3⟩
            have q1 : (0 : Int) ≤ (j : Int) := by omega
            have q2 : (j : Int) < (n : Int) := by omega
            have wk : IntKind.i64.wrap ((j : Int) + 1) = ((j + 1 : Nat) : Int) := (IntWalk.i64_in _ (by omega)).trans (by omega)
            clear hri hds hrn hdc
            go_upto_region 11 with fail
            obtain ⟨wo, hwo⟩ : ∃ W : World, W = wr := ⟨_, rfl⟩
            rw [← hwo] at HRI HBj HDC
            have HBo : Hid (Below wo.heap.size wo wr) := by rw [hwo]; exact Lib.hid (Below.refl _ _)
            clear hwo
            go_loopw [11] (fun x w' => ∃ s : Nat, x = .int .i64 s ∧ s ≤ rn ∧ Hid ((ds.take s).all (okR l m j) = true) ∧ Hid (Below wo.heap.size wo w')) (fun x _ => rn - (intOf x).toNat)
            case atStart => exact ⟨0, rfl, Nat.zero_le _, Lib.hid rfl, HBo⟩
            case round =>
              obtain ⟨s, rfl, hs, HT, HBs⟩ := hrel
              have hdc := (HBs.out.cell (p := dd.add j) (by rw [block_add]; exact HDC.out.2)).trans HDC.out.1
              by_cases hst : s < rn
              · obtain ⟨rd, iv, rfl, hrb, hiv, hrc, -, -⟩ := (HRI.out.grow HBs.out).at_ (k := s) (by rw [HRN.out]; exact hst)
                obtain ⟨i, hij, rfl⟩ := HDM.out iv (List.mem_of_getElem? hiv)
                have HIV := Lib.hid hiv
                have hB3s : Below W3.heap.size W3 wr := below_then HBj.out HBs.out
                have hpir := HPI.out.grow hB3s
                obtain ⟨pa, pi, rfl, hpb, hpi, cI, -, -⟩ := hpir.at_ (k := i) (by rw [plL_length]; omega)
                obtain ⟨pa2, pj, epa, -, hpj, cJ, -, -⟩ := hpir.at_ (k := j) (by rw [plL_length]; omega)
                injection epa with epa
                subst epa
                rw [plL_at (by omega)] at hpi hpj
                injection hpi with hpi
                injection hpj with hpj
                subst hpi hpj
                have zD : ∀ n : Ext wr, n.to.cell? (dd.add j) = some (.slice (some rd) rn rc) := fun n => (n.cell _ (by rw [block_add]; exact Nat.lt_of_lt_of_le HDC.out.2 HBs.out.size)).trans hdc
                have zR : ∀ n : Ext wr, n.to.cell? (rd.add s) = some (.int .i64 (i : Int)) := fun n => (n.cell _ (by rw [block_add]; exact hrb)).trans hrc
                have zI : ∀ n : Ext wr, n.to.cell? (pa.add i) = some (.int .i64 ((plF l m i : Nat) : Int)) := fun n => (n.cell _ (by rw [block_add]; exact hpb)).trans cI
                have zJ : ∀ n : Ext wr, n.to.cell? (pa.add j) = some (.int .i64 ((plF l m j : Nat) : Int)) := fun n => (n.cell _ (by rw [block_add]; exact hpb)).trans cJ
                have hne : plF l m i ≠ plF l m j := fun e => by
                  have := plF_inj (l := l) (m := m) (by rw [HN.out]; omega) (by rw [HN.out]; exact hlt) (HO2.out i (by rw [HN.out]; omega)) e
                  omega
                obtain ⟨pi, hpi⟩ : ∃ y : Nat, plF l m i = y := ⟨_, rfl⟩
                obtain ⟨pj, hpj⟩ : ∃ y : Nat, plF l m j = y := ⟨_, rfl⟩
                rw [hpi] at zI hne
                rw [hpj] at zJ hne
                have HPII := Lib.hid hpi
                have HPJJ := Lib.hid hpj
                have s1 : (0 : Int) ≤ (s : Int) := by omega
                have s2 : (s : Int) < (rn : Int) := by omega
                have s3 : (0 : Int) ≤ (i : Int) := by omega
                have s4 : (i : Int) < (n : Int) := by omega
                have ws : IntKind.i64.wrap ((s : Int) + 1) = ((s + 1 : Nat) : Int) := (IntWalk.i64_in _ (by omega)).trans (by omega)
                have HB3s := Lib.hid hB3s
                clear hiv hrb hrc hB3s hpir cI cJ hpb hpi hpj
                go_upto_region 13 with fail
                clear hdc
                refine wp_region_ext (by kernel_rfl) (by kernel_rfl) ?_
                repeat (go_big_quiet_step (fail))
                refine wpQuiet_nil ?_
                rintro w9 ⟨⟨_, hb9⟩, rfl⟩
                have HB9 := Lib.hid (below_then HBs.out hb9)
                have HB39 := Lib.hid (below_then HB3s.out hb9)
                clear hb9 zI zJ zD zR
                by_cases hgt : pj < pi
                · have hfalse : legB l m = false := leg_bad (j := j) (v := (i : Int)) (by rw [HN.out]; exact hlt) (by rw [HDS.out]; exact List.mem_of_getElem? HIV.out) (by
                    unfold okR
                    rw [Int.toNat_natCast, HPII.out, HPJJ.out]
                    exact decide_eq_false (by omega))
                  have HFA := Lib.hid hfalse
                  have t1 : (pj : Int) ≤ (pi : Int) := by omega
                  have t2 : decide ((pj : Int) ≤ (pi : Int)) = true := decide_eq_true t1
                  clear hfalse hne
                  go_wp2_with fail
                  go_ret2
                  exact ⟨by rw [HFA.out]; rfl, below_then HB0.out HB39.out⟩
                · have t1 : ¬ (pj : Int) ≤ (pi : Int) := by omega
                  have t3 : (pi : Int) < (pj : Int) := by omega
                  have t2 : decide ((pj : Int) ≤ (pi : Int)) = false := decide_eq_false t1
                  have HTS : Hid ((ds.take (s + 1)).all (okR l m j) = true) := by
                    show _ = _
                    rw [all_take HIV.out, HT.out, Bool.true_and]
                    unfold okR
                    rw [Int.toNat_natCast, HPII.out, HPJJ.out]
                    exact decide_eq_true (by omega)
                  clear hne t1
                  go_wp2_with fail
                  go_roundw
                  case rel => exact ⟨s + 1, rfl, by omega, HTS, HB9⟩
                  case measure => simp [intOf]; omega
              · obtain rfl : s = rn := by omega
                have hlo2 : ¬ (s : Int) < (s : Int) := by omega
                have HRS : Hid (((List.range (j + 1)).all fun j => (depRow l j j).all (okR l m j)) = true) := by
                  show _ = _
                  refine and_all HR.out ?_
                  rw [HDS.out]
                  have := HT.out
                  rwa [List.take_of_length_le (Nat.le_of_eq HRN.out)] at this
                have HB3e := Lib.hid (below_then HBj.out HBs.out)
                go_wp2_with fail
                go_roundw
                case rel => exact ⟨j + 1, rfl, by omega, HRS, HB3e⟩
                case measure => simp [intOf]; omega
          · obtain rfl : j = n := by omega
            have hlo3 : ¬ (j : Int) < (j : Int) := by omega
            have htrue : legB l m = true := leg_good HO1.out HO2.out (by rw [HN.out]; exact HR.out)
            have HTR := Lib.hid htrue
            clear htrue
            go_wp2_with fail
            go_ret2
            exact ⟨by rw [HTR.out]; rfl, below_then HB0.out HBj.out⟩
      · have hok : okP l m = false := by simpa using hok
        have CP2 : Hid (∀ w1, Below w.heap.size w w1 → Calls Tryd.prog 31 #[.slice A n c, .slice B n2 d] w1 fun e w' => ∃ V k pc, e = .returned (.tuple #[.slice V k pc, .bool false]) ∧ Below w1.heap.size w1 w') := fun w1 hb => by
          refine (CP.out w1 hb).mono fun e w' hr => ?_
          obtain ⟨⟨V, k, pc, he, -⟩, hb2⟩ := hr
          rw [hok] at he
          exact ⟨V, k, pc, he, hb2⟩
        have HFA := Lib.hid (okP_leg hok)
        clear h h2 hn hn2 hfl hfm h92 hr he hm512 CP e1 e2 e4 hok HI HJ CD HAT
        go_enter Tryd.func18, Tryd.ntmps18
        go_upto_region 3 with (first
          | (go_at_call 24; (with_reducible refine CF.out.mono ?_); rintro e1 w1 ⟨rfl, hb1⟩)
          | (go_at_call 24; (with_reducible refine (CG.out _ hb1).mono ?_); rintro e1 w2 ⟨rfl, hb2⟩))
        have hb3 := below_then hb1 hb2
        go_wp2_with (go_at_call 31; (with_reducible refine (CP2.out _ hb3).mono ?_); rintro e1 w4 ⟨PA, pk, pc, rfl, hb4⟩)
        go_ret2
        exact ⟨by rw [HFA.out]; rfl, below_then hb3 hb4⟩
    · have hfm : fineF m = false := by simpa using hfm
      rw [hfm] at CG
      have hr : legR l m = false := by unfold legR; rw [hfl, hfm]; rfl
      have he : legE l m = 21 := by unfold legE; rw [hfl, hfm]; rfl
      rw [hr, he]
      clear h h2 hn hn2 hfl hfm h92 hr he h9
      go_enter Tryd.func18, Tryd.ntmps18
      go_wp2_with (first
        | (go_at_call 24; (with_reducible refine CF.out.mono ?_); rintro e1 w1 ⟨rfl, hb1⟩)
        | (go_at_call 24; (with_reducible refine (CG.out _ hb1).mono ?_); rintro e1 w2 ⟨rfl, hb2⟩))
      go_ret2
      exact ⟨rfl, below_then hb1 hb2⟩
  · have hfl : fineF l = false := by simpa using hfl
    rw [hfl] at CF
    have hr : legR l m = false := by unfold legR; rw [hfl]; rfl
    have he : legE l m = 21 := by unfold legE; rw [hfl]; rfl
    rw [hr, he]
    clear h h2 hn hn2 hfl h92 hr he h9 CG
    go_enter Tryd.func18, Tryd.ntmps18
    go_wp2_with (go_at_call 24; (with_reducible refine CF.out.mono ?_); rintro e1 w1 ⟨rfl, hb1⟩)
    go_ret2
    exact ⟨rfl, hb1⟩
end Go.Proofs.YtemefigbnjkdoaaDoor
