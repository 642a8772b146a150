/- The law ScheduleJudges. Printed by gen_e30.py. -/
import Derived.Test.YtemefigbnjkdoaaDoorE22
import Derived.Test.YtemefigbnjkdoaaDoorE28
import Derived.Test.YtemefigbnjkdoaaDoorPa
import Derived.Test.YtemefigbnjkdoaaDoorPz
import Derived.Deep.CutBlock
import Derived.Deep.DeepCutAuto
set_option linter.unusedVariables false
set_option linter.unusedSimpArgs false
namespace Go.Proofs.YtemefigbnjkdoaaDoor
open Go.RowKit

theorem prgF_code_pos (dn cn : Int) (rs os fs : List Int) (most : Nat) : 1 ≤ (prgF dn cn rs os fs most).code.length ∧ (prgF dn cn rs os fs most).code.length ≤ most + 1 := by
  unfold prgF
  simp [codeK_length]
  omega
theorem size_dft : (Tryd.prog.info? 39).map (·.size) = some 5 := by kernel_rfl
theorem row_dft : ∃ d, Tryd.prog.underlying 39 = some d ∧ d.isRow = true := ⟨_, Tryd.underlying39, rfl⟩
theorem fld_code (v0 v1 v2 v3 v4 v5 v6 v7 : Int) (RA CA : Option Addr) (rn rc cn cc : Nat) (w : World) : (Instr.field 46 (.agg #[.int .i64 v0, .int .i64 v1, .int .i64 v2, .int .i64 v3, .int .i64 v4, .int .i64 v5, .int .i64 v6, .int .i64 v7, .slice RA rn rc, .slice CA cn cc]) 3).run Tryd.prog w = .ok (.slice CA cn cc) w := by kernel_rfl
def DraftA.lst (u : DraftA) : List Value := [.int .i64 u.dn, .int .i64 u.cn, .slice u.RA u.rs.length u.rc, .slice u.OA u.os.length u.oc, .slice u.FA u.fs.length u.fc]
/-- A boxed draft is loaded. -/
theorem ld_dft {ops : Array Oper} {rest : List Oper} {o : Oper} {a : Act} {Q : Exit → Act → World → Prop} {w : World} {u : DraftA} {g : Nat} (hb : Box w g u.lst) (hgd : o.guard = none) (x : Operand) (ho : o.op = .load 39 x) (hx : a.eval x = .pointer (some ⟨g, 0, none⟩)) (h : wpList Tryd.prog ops Q rest (a.put o.dst u.v) w) : wpList Tryd.prog ops Q (o :: rest) a w := by
  obtain ⟨d, h1, h2⟩ := row_dft
  exact wp_ld hgd _ x ho g 0 hx hb u.lst (fun j v hj => by rw [Nat.zero_add]; exact hj) d h1 h2 size_dft h
theorem OwnIR.some {base : Nat} {w : World} {v : Value} {l : List Ins} (h : OwnIR base w v l) (hl : 1 ≤ l.length) : ∃ g c, v = .slice (some ⟨g, 0, none⟩) l.length c := by
  obtain ⟨A, c, rfl, -⟩ := own_form h.1
  obtain ⟨i, hi⟩ : ∃ i, l[0]? = Option.some i := ⟨_, List.getElem?_eq_getElem (by omega)⟩
  obtain ⟨g, e0, -, -⟩ := own_cells h.1 (k := 0 * 4 + 0) (v := .int .i64 i.op) (by rw [flatI_get hi (by omega)]; rfl)
  subst e0
  exact ⟨g, c, rfl⟩
def ljRel (sn yb yg cn yc : Nat) (w6 : World) (x : Value) (wr : World) : Prop :=
  ∃ (k : Nat) (ys : List Ins), x = .int .i64 k ∧ k ≤ 4 ∧ k ≤ sn ∧ Hid (OwnIR yb wr (.slice (some ⟨yg, 0, none⟩) cn yc) ys) ∧ ys.length = cn ∧ Hid (Below yb w6 wr)
set_option maxRecDepth 100000 in
set_option maxHeartbeats 16000000 in
theorem law_ScheduleJudges (u v : Option Addr × Nat × List Ins) (dd : DraftA) (s : Option Addr × Nat × List Int) (w : World) (hf : FormsAt w) (hu : InsAt w u.1 u.2.2 ∧ u.2.2.length ≤ 9223372036854775807) (hv : InsAt w v.1 v.2.2 ∧ v.2.2.length ≤ 9223372036854775807) (hd : DraftOk w dd) (hs : Ints w s.1 s.2.2 ∧ s.2.2.length ≤ 9223372036854775807) :
    Calls Tryd.prog 4 #[.slice u.1 u.2.2.length u.2.1, .slice v.1 v.2.2.length v.2.1, dd.v, .slice s.1 s.2.2.length s.2.1] w fun e w' => e = .returned (.bool true) ∧ Below w.heap.size w w' := by
  obtain ⟨A, c, l⟩ := u
  obtain ⟨B, d, m⟩ := v
  obtain ⟨SA, sc, sl⟩ := s
  obtain ⟨hi, h9⟩ := hu
  obtain ⟨hj, h92⟩ := hv
  obtain ⟨hsi, h93⟩ := hs
  simp only at hi h9 hj h92 hsi h93 ⊢
  obtain ⟨n, hn⟩ : ∃ n, l.length = n := ⟨_, rfl⟩
  obtain ⟨n2, hn2⟩ : ∃ n, m.length = n := ⟨_, rfl⟩
  obtain ⟨sn, hsn⟩ : ∃ n, sl.length = n := ⟨_, rfl⟩
  rw [hn] at h9 ⊢
  rw [hn2] at h92 ⊢
  rw [hsn] at h93 ⊢
  have CK : Hid (∀ w1, Below w.heap.size w w1 → Calls Tryd.prog 6 #[] w1 fun e w' => e = .returned (.bool true) ∧ Below w1.heap.size w1 w') := fun w1 hb => known40 w1 (hf.grow hb)
  have hent : Below w.heap.size w (w.alloc (.cells #[.int .i64 dd.dn, .int .i64 dd.cn, .slice dd.RA dd.rs.length dd.rc, .slice dd.OA dd.os.length dd.oc, .slice dd.FA dd.fs.length dd.fc] 39)) := (Below.refl _ _).alloc (Nat.le_refl _) _
  have hbox : Box (w.alloc (.cells #[.int .i64 dd.dn, .int .i64 dd.cn, .slice dd.RA dd.rs.length dd.rc, .slice dd.OA dd.os.length dd.oc, .slice dd.FA dd.fs.length dd.fc] 39)) w.heap.size dd.lst := Box.new rfl
  have HENT := Lib.hid hent
  by_cases hlen : 30 < n
  · have x1 : (30 : Int) < (n : Int) := by omega
    clear hi hj hsi hn hn2 hsn hf hd h9 h92 h93 hent hbox hlen
    go_enter Tryd.func4, Tryd.ntmps4
    go_wp2_with (go_at_call 6; (with_reducible refine (CK.out _ HENT.out).mono ?_); rintro e1 w1 ⟨rfl, hb1⟩)
    go_ret
    exact ⟨rfl, below_then HENT.out hb1⟩
  · have x1 : ¬ (30 : Int) < (n : Int) := by omega
    by_cases hlen2 : 30 < n2
    · have x2 : (30 : Int) < (n2 : Int) := by omega
      have x3 : decide ((30 : Int) < (n2 : Int)) = true := decide_eq_true x2
      clear hi hj hsi hn hn2 hsn hf hd h9 h92 h93 hent hbox hlen hlen2
      go_enter Tryd.func4, Tryd.ntmps4
      go_wp2_with (go_at_call 6; (with_reducible refine (CK.out _ HENT.out).mono ?_); rintro e1 w1 ⟨rfl, hb1⟩)
      go_ret
      exact ⟨rfl, below_then HENT.out hb1⟩
    · have x2 : ¬ (30 : Int) < (n2 : Int) := by omega
      have x3 : decide ((30 : Int) < (n2 : Int)) = false := decide_eq_false x2
      have HF := Lib.hid hf
      have HN := Lib.hid hn
      have HN2 := Lib.hid hn2
      have HSN := Lib.hid hsn
      have HI := Lib.hid hi
      have HJ := Lib.hid hj
      have HSI := Lib.hid hsi
      have HDD := Lib.hid hd
      obtain ⟨R1, hR1⟩ : ∃ b, legR l m = b := ⟨_, rfl⟩
      obtain ⟨E1, hE1⟩ : ∃ b, legE l m = b := ⟨_, rfl⟩
      have C1 : Hid (∀ w1, Below w.heap.size w w1 → Calls Tryd.prog 17 #[.slice A n c, .slice B n2 d] w1 fun e w' => e = .returned (.tuple #[.bool R1, .int .i64 E1]) ∧ Below w1.heap.size w1 w') := fun w1 hb => by
        rw [← hR1, ← hE1]; exact sc_Legal A B n c n2 d l m w1 (HF.out.grow hb) (HI.out.grow hb) (HJ.out.grow hb) HN.out HN2.out h9 h92
      have C2 : Hid (∀ w1, Below w.heap.size w w1 → Calls Tryd.prog 18 #[.slice A n c, .slice B n2 d] w1 fun e w' => e = .returned (.tuple #[.bool R1, .int .i64 E1]) ∧ Below w1.heap.size w1 w') := fun w1 hb => by
        rw [← hR1, ← hE1]; exact r40_Legal A B n c n2 d l m w1 (HI.out.grow hb) (HJ.out.grow hb) HN.out HN2.out h9 h92
      obtain ⟨cl, hcl⟩ : ∃ x, (dd.d 20).code = x := ⟨_, rfl⟩
      obtain ⟨cn, hcn⟩ : ∃ x, cl.length = x := ⟨_, rfl⟩
      have hcp : 1 ≤ cn ∧ cn ≤ 21 := by
        have := prgF_code_pos dd.dn dd.cn dd.rs dd.os dd.fs 20
        rw [← hcn, ← hcl]; exact this
      have HCN := Lib.hid hcn
      have CP : Hid (∀ w1, Below w.heap.size w w1 → Calls Tryd.prog 19 #[dd.v, .int .i64 20] w1 fun e w' => ∃ v0 v1 v2 v3 v4 v5 v6 v7 RA rn rc CA cc, e = .returned (.agg #[.int .i64 v0, .int .i64 v1, .int .i64 v2, .int .i64 v3, .int .i64 v4, .int .i64 v5, .int .i64 v6, .int .i64 v7, .slice RA rn rc, .slice CA cn cc]) ∧ InsAt w' CA cl ∧ Below w1.heap.size w1 w') := fun w1 hb => by
        have h := dr_Code dd 20 w1 (HDD.out.grow hb) (by omega)
        refine Calls.mono (show Calls Tryd.prog 19 #[dd.v, .int .i64 20] w1 _ from h) fun e w' hr => ?_
        obtain ⟨p, h1, h2, h3, h4⟩ := hr
        have e1 : p.d.code = cl := by rw [h1]; exact hcl
        rw [e1, hcn] at h2
        exact ⟨_, _, _, _, _, _, _, _, _, _, _, _, _, h2, by rw [← e1]; exact h3.2, h4⟩
      have CL : Hid (∀ w1 X xc Y yc ys, Below w.heap.size w w1 → InsAt w1 X cl → InsAt w1 Y ys → ys.length = cn → (Calls Tryd.prog 17 #[.slice X cn xc, .slice Y cn yc] w1 fun e w' => e = .returned (.tuple #[.bool (legR cl ys), .int .i64 (legE cl ys)]) ∧ Below w1.heap.size w1 w') ∧ (Calls Tryd.prog 18 #[.slice X cn xc, .slice Y cn yc] w1 fun e w' => e = .returned (.tuple #[.bool (legR cl ys), .int .i64 (legE cl ys)]) ∧ Below w1.heap.size w1 w')) := fun w1 X xc Y yc ys hb hx hy hl =>
        ⟨sc_Legal X Y cn xc cn yc cl ys w1 (HF.out.grow hb) hx hy HCN.out hl (by omega) (by omega), r40_Legal X Y cn xc cn yc cl ys w1 hx hy HCN.out hl (by omega) (by omega)⟩
      have HBOX := Lib.hid hbox
      obtain ⟨hcp1, hcp2⟩ := hcp
      clear hi hj hsi hn hn2 hsn hf hd hent hbox hlen hlen2 hR1 hE1 hcl hcn HI HJ HDD
      have hfld := @fld_code
      go_enter Tryd.func4, Tryd.ntmps4
      go_upto_region 3 with fail
      clear x1 x2 x3
      have HE0 := HENT.out
      have HX0 := HBOX.out
      generalize w.alloc (.cells #[.int .i64 dd.dn, .int .i64 dd.cn, .slice dd.RA dd.rs.length dd.rc, .slice dd.OA dd.os.length dd.oc, .slice dd.FA dd.fs.length dd.fc] 39) = w0 at HE0 HX0 ⊢
      have HB0 := Lib.hid HE0
      have HX := Lib.hid HX0
      clear HE0 HX0 HENT HBOX
      go_upto_region 4 with (go_at_call 17; (with_reducible refine (C1.out _ HB0.out).mono ?_); rintro e1 w1 ⟨rfl, hb1⟩)
      have hb01 := below_then HB0.out hb1
      go_upto_region 5 with (go_at_call 18; (with_reducible refine (C2.out _ hb01).mono ?_); rintro e1 w2 ⟨rfl, hb2⟩)
      have HB02 := Lib.hid (below_then hb01 hb2)
      have HX2 := Lib.hid ((HX.out.keep hb1).keep hb2)
      clear hb1 hb2 hb01 C1 C2 HX HB0
      go_upto_region 6 with (first
        | ((with_reducible show wpList _ _ _ (Oper.mk (some 42) (.load _ _) _ _ _ _ :: _) _ _); refine ld_dft HX2.out rfl _ rfl rfl ?_)
        | (go_at_call 19; (with_reducible refine (CP.out _ HB02.out).mono ?_); rintro e1 w6 ⟨v0, v1, v2, v3, v4, v5, v6, v7, RA, rn, rc, CA, cc, rfl, hca, hb6⟩))
      have HB06 := Lib.hid (below_then HB02.out hb6)
      have HCA := Lib.hid hca
      have HEA : Hid (Below w6.heap.size w6 (w6.alloc (.cells #[] 50))) := Lib.hid ((Below.refl _ _).alloc (Nat.le_refl _) _)
      obtain ⟨yb, hyb⟩ : ∃ x, w6.heap.size = x := ⟨_, rfl⟩
      have HYBE := Lib.hid hyb
      have hlx : ([] : List Ins).length + cn ≤ 100000000 := by show 0 + cn ≤ _; omega
      clear hb6 hca CP HX2 HB02 hyb hfld
      go_upto_region 7 with (first
        | ((with_reducible show wpList _ _ _ (Oper.mk (some 47) _ _ _ _ _ :: _) _ _); refine app_ins (w6.alloc (.cells #[] 50)) rfl _ _ rfl w6.heap.size (l := []) (m := cl) rfl rfl emp_ins (HCA.out.grow HEA.out) HCN.out hlx HEA.out.size ?_; intro vy w7 hy7 hb7; obtain ⟨yg, yc, ey⟩ := hy7.some (by rw [List.nil_append, HCN.out]; exact hcp1); rw [List.nil_append, HCN.out] at ey; subst ey))
      rw [List.nil_append, HYBE.out] at hy7
      rw [HYBE.out] at hb7
      have HY7 := Lib.hid hy7
      have HB7 : Hid (Below yb w6 w7) := by
        have h := HEA.out
        rw [HYBE.out] at h
        exact h.trans hb7
      clear hy7 hb7 HEA
      go_upto_block 0 with fail
      go_cut [15] (fun _ wx => ∃ ys : List Ins, Hid (OwnIR yb wx (.slice (some ⟨yg, 0, none⟩) cn yc) ys) ∧ ys.length = cn ∧ Hid (Below yb w6 wx))
      case first =>
        go_wp2_with fail
        go_loopw [15] (fun x wr => ljRel sn yb yg cn yc w6 x wr) (fun x _ => 4 - (intOf x).toNat)
        case atStart => exact ⟨0, cl, rfl, by omega, Nat.zero_le _, HY7, HCN.out, HB7⟩
        case round =>
          obtain ⟨k, ys, rfl, hk4, hks, HOY, HYL, HBY⟩ := hrel
          by_cases hlt : k < sn ∧ k < 4
          · obtain ⟨hk1, hk2⟩ := hlt
            have HBW : Hid (Below w.heap.size w wr) := HB06.out.trans (HBY.out.mono (by have := HB06.out.size; have := HYBE.out; omega))
            obtain ⟨sa, sv, rfl, hsb, hsv, hsc, -, -⟩ := (HSI.out.grow HBW.out).at_ (k := k) (by rw [HSN.out]; exact hk1)
            obtain ⟨q, hq⟩ : ∃ q, withinF sv (cn : Int) = q := ⟨_, rfl⟩
            have hq1 := within_in (m := (cn : Int)) (by omega) sv
            rw [hq] at hq1
            obtain ⟨qn, hqn⟩ := Int.eq_ofNat_of_zero_le hq1.1
            subst hqn
            have CW : Hid (∀ w1, Calls Tryd.prog 20 #[.int .i64 sv, .int .i64 (cn : Int)] w1 fun e w' => e = .returned (.int .i64 (qn : Int)) ∧ w1 = w') := fun w1 => by
              rw [← hq]; exact wd_Within sv cn w1 (by omega)
            have hqc : qn < cn := by omega
            have x1 : (0 : Int) ≤ (k : Int) := by omega
            have x2 : (k : Int) < (sn : Int) := by omega
            have x3 : (k : Int) < 4 := by omega
            have x4 : decide ((k : Int) < 4) = true := decide_eq_true x3
            have wk : IntKind.i64.wrap ((k : Int) + 1) = ((k + 1 : Nat) : Int) := (IntWalk.i64_in _ (by omega)).trans (by omega)
            have wq : IntKind.i64.wrap ((qn : Int) + 1) = ((qn + 1 : Nat) : Int) := (IntWalk.i64_in _ (by omega)).trans (by omega)
            clear hsv hq hq1 hsb
            by_cases hsw : qn + 1 < cn
            · have x5 : ((qn + 1 : Nat) : Int) < (cn : Int) := by omega
              have x6 : (qn : Int) + 1 < (cn : Int) := by omega
              obtain ⟨ia, hia⟩ : ∃ x, ys[qn]? = some x := ⟨_, List.getElem?_eq_getElem (by omega)⟩
              obtain ⟨ib, hib⟩ : ∃ x, ys[qn + 1]? = some x := ⟨_, List.getElem?_eq_getElem (by omega)⟩
              obtain ⟨Ay, cy, ey, -, hiy⟩ := HOY.out.form
              injection ey with ey ey2 ey3
              subst ey
              clear ey2 ey3
              obtain ⟨ad1, ea1, -, -, r1, o1⟩ := hiy qn ia hia
              obtain ⟨ad2, ea2, -, -, r2, o2⟩ := hiy (qn + 1) ib hib
              injection ea1 with ea1
              injection ea2 with ea2
              subst ea1 ea2
              have HRA := Lib.hid r1
              have HRB := Lib.hid r2
              have HOKA := Lib.hid o1
              have HOKB := Lib.hid o2
              have HIA := Lib.hid hia
              have HIB := Lib.hid hib
              have HQL : Hid (qn < ys.length) := by show _ < _; omega
              have HQL1 : Hid (qn + 1 < (ys.set qn ib).length) := by show _ < _; rw [List.length_set]; omega
              have HYB : Hid (yb ≤ wr.heap.size) := Nat.le_trans (Nat.le_of_eq HYBE.out.symm) HBY.out.size
              have qa : (0 : Int) ≤ (qn : Int) := by omega
              have qb : (qn : Int) < (cn : Int) := by omega
              have qc : (0 : Int) ≤ ((qn + 1 : Nat) : Int) := by omega
              have qd : ((qn + 1 : Nat) : Int) < (cn : Int) := by omega
              have qe : (0 : Int) ≤ (qn : Int) + 1 := by omega
              have qf : (qn : Int) + 1 < (cn : Int) := by omega
              clear r1 r2 o1 o2 hia hib hiy
              go_upto_region 12 with (go_at_call 20; (with_reducible refine (CW.out _).mono ?_); rintro e1 w8 ⟨rfl, rfl⟩)
              refine wp_region_held (S := fun _ => True) (by kernel_rfl) ?_
              show wpAnyH Tryd.prog .any _ _ _ 18 #[false, false, false, false, false, false, false, false, false, false, false, false, false, false, false, false, false, false] _ _
              refine wpAnyH_take (i := 0) (oi := _) (v := (.slice (some ⟨yg, 0, none⟩) cn yc)) rfl (by kernel_rfl) (by kernel_rfl) (by kernel_rfl) (fun _ _ _ h => h) (Or.inl ⟨by kernel_rfl, fun w _ => rfl⟩) trivial ?_
              show wpAnyH Tryd.prog .any _ _ _ _ _ (Act.put _ (some 70) _) _
              simp only [Act.put, List.setIfInBounds_toArray, List.set_cons_zero, List.set_cons_succ]
              refine wpAnyH_take (i := 1) (oi := _) (v := (.int .i64 (qn : Int))) rfl (by kernel_rfl) (by kernel_rfl) (by kernel_rfl) (fun _ _ _ h => h) (Or.inl ⟨by kernel_rfl, fun w _ => rfl⟩) trivial ?_
              show wpAnyH Tryd.prog .any _ _ _ _ _ (Act.put _ (some 71) _) _
              simp only [Act.put, List.setIfInBounds_toArray, List.set_cons_zero, List.set_cons_succ]
              refine wpAnyH_take (i := 2) (oi := _) (v := (.slice (some ⟨yg, 0, none⟩) cn yc)) rfl (by kernel_rfl) (by kernel_rfl) (by kernel_rfl) (fun _ _ _ h => h) (Or.inl ⟨by kernel_rfl, fun w _ => rfl⟩) trivial ?_
              show wpAnyH Tryd.prog .any _ _ _ _ _ (Act.put _ (some 72) _) _
              simp only [Act.put, List.setIfInBounds_toArray, List.set_cons_zero, List.set_cons_succ]
              refine wpAnyH_take (i := 3) (oi := _) (v := (.int .i64 (qn : Int))) rfl (by kernel_rfl) (by kernel_rfl) (by kernel_rfl) (fun _ _ _ h => h) (Or.inl ⟨by kernel_rfl, fun w _ => rfl⟩) trivial ?_
              show wpAnyH Tryd.prog .any _ _ _ _ _ (Act.put _ (some 73) _) _
              simp only [Act.put, List.setIfInBounds_toArray, List.set_cons_zero, List.set_cons_succ]
              refine wpAnyH_take (i := 5) (oi := _) (v := (.slice (some ⟨yg, 0, none⟩) cn yc)) rfl (by kernel_rfl) (by kernel_rfl) (by kernel_rfl) (fun _ _ _ h => h) (Or.inl ⟨by kernel_rfl, fun w _ => rfl⟩) trivial ?_
              show wpAnyH Tryd.prog .any _ _ _ _ _ (Act.put _ (some 75) _) _
              simp only [Act.put, List.setIfInBounds_toArray, List.set_cons_zero, List.set_cons_succ]
              refine wpAnyH_take (i := 6) (oi := _) (v := (.int .i64 (qn : Int))) rfl (by kernel_rfl) (by kernel_rfl) (by kernel_rfl) (fun _ _ _ h => h) (Or.inl ⟨by kernel_rfl, fun w _ => rfl⟩) trivial ?_
              show wpAnyH Tryd.prog .any _ _ _ _ _ (Act.put _ (some 76) _) _
              simp only [Act.put, List.setIfInBounds_toArray, List.set_cons_zero, List.set_cons_succ]
              refine wpAnyH_take (i := 10) (oi := _) (v := (.slice (some ⟨yg, 0, none⟩) cn yc)) rfl (by kernel_rfl) (by kernel_rfl) (by kernel_rfl) (fun _ _ _ h => h) (Or.inl ⟨by kernel_rfl, fun w _ => rfl⟩) trivial ?_
              show wpAnyH Tryd.prog .any _ _ _ _ _ (Act.put _ (some 80) _) _
              simp only [Act.put, List.setIfInBounds_toArray, List.set_cons_zero, List.set_cons_succ]
              refine wpAnyH_take (i := 11) (oi := _) (v := (.int .i64 (qn : Int))) rfl (by kernel_rfl) (by kernel_rfl) (by kernel_rfl) (fun _ _ _ h => h) (Or.inl ⟨by kernel_rfl, fun w _ => rfl⟩) trivial ?_
              show wpAnyH Tryd.prog .any _ _ _ _ _ (Act.put _ (some 81) _) _
              simp only [Act.put, List.setIfInBounds_toArray, List.set_cons_zero, List.set_cons_succ]
              refine wpAnyH_take (i := 4) (oi := _) (v := (.int .i64 ((qn + 1 : Nat) : Int))) rfl (by kernel_rfl) (by kernel_rfl) (by kernel_rfl) (fun _ _ _ h => h) (Or.inl ⟨by kernel_rfl, fun w _ => by simp [execOp, go_sem, Act.put, Act.eval, wq]⟩) trivial ?_
              show wpAnyH Tryd.prog .any _ _ _ _ _ (Act.put _ (some 74) _) _
              simp only [Act.put, List.setIfInBounds_toArray, List.set_cons_zero, List.set_cons_succ]
              refine wpAnyH_take (i := 7) (oi := _) (v := (.int .i64 ((qn + 1 : Nat) : Int))) rfl (by kernel_rfl) (by kernel_rfl) (by kernel_rfl) (fun _ _ _ h => h) (Or.inl ⟨by kernel_rfl, fun w _ => by simp [execOp, go_sem, Act.put, Act.eval, wq]⟩) trivial ?_
              show wpAnyH Tryd.prog .any _ _ _ _ _ (Act.put _ (some 77) _) _
              simp only [Act.put, List.setIfInBounds_toArray, List.set_cons_zero, List.set_cons_succ]
              refine wpAnyH_take (i := 8) (oi := _) (v := (.pointer (some (Addr.add ⟨yg, 0, none⟩ ((qn + 1) * 4))))) rfl (by kernel_rfl) (by kernel_rfl) (by kernel_rfl) (fun _ _ _ h => h) (Or.inl ⟨by kernel_rfl, fun w _ => by simp [execOp, go_sem, Act.put, Act.eval, qa, qb, qe, qf]⟩) trivial ?_
              show wpAnyH Tryd.prog .any _ _ _ _ _ (Act.put _ (some 78) _) _
              simp only [Act.put, List.setIfInBounds_toArray, List.set_cons_zero, List.set_cons_succ]
              refine wpAnyH_take (i := 12) (oi := _) (v := (.pointer (some (Addr.add ⟨yg, 0, none⟩ (qn * 4))))) rfl (by kernel_rfl) (by kernel_rfl) (by kernel_rfl) (fun _ _ _ h => h) (Or.inl ⟨by kernel_rfl, fun w _ => by simp [execOp, go_sem, Act.put, Act.eval, qa, qb, qe, qf]⟩) trivial ?_
              show wpAnyH Tryd.prog .any _ _ _ _ _ (Act.put _ (some 82) _) _
              simp only [Act.put, List.setIfInBounds_toArray, List.set_cons_zero, List.set_cons_succ]
              refine anyX_two (i := 9) (j := 13) rfl rfl (by kernel_rfl) rfl rfl (fun cs b h => by cases h) (fun cs b h => by cases h) (fun d h => by cases h; exact of_decide_eq_true rfl) (fun d h => by cases h; exact of_decide_eq_true rfl) ?_ ?_
              · refine ld_insA (ad := ⟨yg, 0, none⟩) (n := (qn + 1) * 4) (i := ib) rfl HRB.out rfl _ rfl rfl ?_
                refine ⟨rfl, _, rfl, trivial, ?_⟩
                simp only [Act.put, List.setIfInBounds_toArray, List.set_cons_zero, List.set_cons_succ]
                refine anyX_one (i := 13) rfl (by kernel_rfl) rfl (fun cs b h => by cases h) (fun d h => by cases h; exact of_decide_eq_true rfl) ?_
                refine ld_insA (ad := ⟨yg, 0, none⟩) (n := qn * 4) (i := ia) rfl HRA.out rfl _ rfl rfl ?_
                refine ⟨rfl, _, rfl, trivial, ?_⟩
                simp only [Act.put, List.setIfInBounds_toArray, List.set_cons_zero, List.set_cons_succ]
                refine wpAnyH_take (i := 14) (oi := _) (v := (.pointer (some (Addr.add ⟨yg, 0, none⟩ (qn * 4))))) rfl (by kernel_rfl) (by kernel_rfl) (by kernel_rfl) (fun _ _ _ h => h) (Or.inl ⟨by kernel_rfl, fun w _ => by simp [execOp, go_sem, Act.put, Act.eval, qa, qb, qe, qf]⟩) trivial ?_
                show wpAnyH Tryd.prog .any _ _ _ _ _ (Act.put _ (some 84) _) _
                simp only [Act.put, List.setIfInBounds_toArray, List.set_cons_zero, List.set_cons_succ]
                refine anyX_one (i := 15) rfl (by kernel_rfl) rfl (fun cs b h => by cases h) (fun d h => by cases h) ?_
                refine st_insR (k := qn) (i := ib) HOY.out HQL.out HOKB.out rfl _ _ rfl rfl rfl ?_
                intro wA hA gA
                refine ⟨rfl, undef, rfl, trivial, ?_⟩
                simp only [Act.put, List.setIfInBounds_toArray, List.set_cons_zero, List.set_cons_succ]
                refine wpAnyH_take (i := 16) (oi := _) (v := (.pointer (some (Addr.add ⟨yg, 0, none⟩ ((qn + 1) * 4))))) rfl (by kernel_rfl) (by kernel_rfl) (by kernel_rfl) (fun _ _ _ h => h) (Or.inl ⟨by kernel_rfl, fun w _ => by simp [execOp, go_sem, Act.put, Act.eval, qa, qb, qe, qf]⟩) trivial ?_
                show wpAnyH Tryd.prog .any _ _ _ _ _ (Act.put _ (some 85) _) _
                simp only [Act.put, List.setIfInBounds_toArray, List.set_cons_zero, List.set_cons_succ]
                refine anyX_one (i := 17) rfl (by kernel_rfl) rfl (fun cs b h => by cases h) (fun d h => by cases h) ?_
                refine st_insR (k := qn + 1) (i := ia) hA HQL1.out HOKA.out rfl _ _ rfl rfl rfl ?_
                intro wB hB gB
                refine ⟨rfl, undef, rfl, trivial, ?_⟩
                simp only [Act.put, List.setIfInBounds_toArray, List.set_cons_zero, List.set_cons_succ]
                refine wpAnyH_done (by kernel_rfl) ?_ _
                rw [swp_get HIA.out HIB.out] at hB
                have HYn := Lib.hid hB
                have HBn : Hid (Below yb w6 wB) := ((Below.drew HBY.out).grown gA HYB.out (fun j e => by injection e with e; have := HOY.out.block; omega)).grown gB (Nat.le_trans HYB.out gA.size) (fun j e => by injection e with e; have := HOY.out.block; omega)
                clear hA gA hB gB
                go_wp2_with fail
                go_roundw
                case rel => exact ⟨k + 1, _, by go_num, by omega, by omega, HYn, by rw [swpF_len]; exact HYL, HBn⟩
                case measure => simp [intOf]; omega
              · refine ld_insA (ad := ⟨yg, 0, none⟩) (n := qn * 4) (i := ia) rfl HRA.out rfl _ rfl rfl ?_
                refine ⟨rfl, _, rfl, trivial, ?_⟩
                simp only [Act.put, List.setIfInBounds_toArray, List.set_cons_zero, List.set_cons_succ]
                refine anyX_one (i := 9) rfl (by kernel_rfl) rfl (fun cs b h => by cases h) (fun d h => by cases h; exact of_decide_eq_true rfl) ?_
                refine ld_insA (ad := ⟨yg, 0, none⟩) (n := (qn + 1) * 4) (i := ib) rfl HRB.out rfl _ rfl rfl ?_
                refine ⟨rfl, _, rfl, trivial, ?_⟩
                simp only [Act.put, List.setIfInBounds_toArray, List.set_cons_zero, List.set_cons_succ]
                refine wpAnyH_take (i := 14) (oi := _) (v := (.pointer (some (Addr.add ⟨yg, 0, none⟩ (qn * 4))))) rfl (by kernel_rfl) (by kernel_rfl) (by kernel_rfl) (fun _ _ _ h => h) (Or.inl ⟨by kernel_rfl, fun w _ => by simp [execOp, go_sem, Act.put, Act.eval, qa, qb, qe, qf]⟩) trivial ?_
                show wpAnyH Tryd.prog .any _ _ _ _ _ (Act.put _ (some 84) _) _
                simp only [Act.put, List.setIfInBounds_toArray, List.set_cons_zero, List.set_cons_succ]
                refine anyX_one (i := 15) rfl (by kernel_rfl) rfl (fun cs b h => by cases h) (fun d h => by cases h) ?_
                refine st_insR (k := qn) (i := ib) HOY.out HQL.out HOKB.out rfl _ _ rfl rfl rfl ?_
                intro wA hA gA
                refine ⟨rfl, undef, rfl, trivial, ?_⟩
                simp only [Act.put, List.setIfInBounds_toArray, List.set_cons_zero, List.set_cons_succ]
                refine wpAnyH_take (i := 16) (oi := _) (v := (.pointer (some (Addr.add ⟨yg, 0, none⟩ ((qn + 1) * 4))))) rfl (by kernel_rfl) (by kernel_rfl) (by kernel_rfl) (fun _ _ _ h => h) (Or.inl ⟨by kernel_rfl, fun w _ => by simp [execOp, go_sem, Act.put, Act.eval, qa, qb, qe, qf]⟩) trivial ?_
                show wpAnyH Tryd.prog .any _ _ _ _ _ (Act.put _ (some 85) _) _
                simp only [Act.put, List.setIfInBounds_toArray, List.set_cons_zero, List.set_cons_succ]
                refine anyX_one (i := 17) rfl (by kernel_rfl) rfl (fun cs b h => by cases h) (fun d h => by cases h) ?_
                refine st_insR (k := qn + 1) (i := ia) hA HQL1.out HOKA.out rfl _ _ rfl rfl rfl ?_
                intro wB hB gB
                refine ⟨rfl, undef, rfl, trivial, ?_⟩
                simp only [Act.put, List.setIfInBounds_toArray, List.set_cons_zero, List.set_cons_succ]
                refine wpAnyH_done (by kernel_rfl) ?_ _
                rw [swp_get HIA.out HIB.out] at hB
                have HYn := Lib.hid hB
                have HBn : Hid (Below yb w6 wB) := ((Below.drew HBY.out).grown gA HYB.out (fun j e => by injection e with e; have := HOY.out.block; omega)).grown gB (Nat.le_trans HYB.out gA.size) (fun j e => by injection e with e; have := HOY.out.block; omega)
                clear hA gA hB gB
                go_wp2_with fail
                go_roundw
                case rel => exact ⟨k + 1, _, by go_num, by omega, by omega, HYn, by rw [swpF_len]; exact HYL, HBn⟩
                case measure => simp [intOf]; omega
            · have x5 : ¬ ((qn + 1 : Nat) : Int) < (cn : Int) := by omega
              have x6 : ¬ (qn : Int) + 1 < (cn : Int) := by omega
              have x7 : (cn : Int) ≤ ((qn + 1 : Nat) : Int) := by omega
              go_wp2_with (go_at_call 20; (with_reducible refine (CW.out _).mono ?_); rintro e1 w8 ⟨rfl, rfl⟩)
              go_roundw
              case rel => exact ⟨k + 1, ys, by go_num, by omega, by omega, HOY, HYL, HBY⟩
              case measure => simp [intOf]; omega
          · by_cases hk : k < sn
            · have x2 : (k : Int) < (sn : Int) := by omega
              have x3 : ¬ (k : Int) < 4 := by omega
              have x4 : decide ((k : Int) < 4) = false := decide_eq_false x3
              go_wp2_with fail
              go_meet
              exact ⟨ys, HOY, HYL, HBY⟩
            · have x2 : ¬ (k : Int) < (sn : Int) := by omega
              go_wp2_with fail
              go_meet
              exact ⟨ys, HOY, HYL, HBY⟩
      case rest =>
        obtain ⟨ys, HOY, HYL, HBY⟩ := hcut
        have HBW : Hid (Below w.heap.size w wc) := HB06.out.trans (HBY.out.mono (by have := HB06.out.size; have := HYBE.out; omega))
        have HX6 : Hid (InsAt wc CA cl) := by
          have h := HBY.out
          rw [← HYBE.out] at h
          exact Lib.hid (HCA.out.grow h)
        have HY6 : Hid (InsAt wc (some ⟨yg, 0, none⟩) ys) := by
          obtain ⟨Ay, cy, ey, -, hiy⟩ := HOY.out.form
          injection ey with ey ey2 ey3
          rw [ey]; exact Lib.hid hiy
        obtain ⟨R2, hR2⟩ : ∃ b, legR cl ys = b := ⟨_, rfl⟩
        obtain ⟨E2, hE2⟩ : ∃ b, legE cl ys = b := ⟨_, rfl⟩
        have C3 : Hid (∀ w1, Below wc.heap.size wc w1 → Calls Tryd.prog 17 #[.slice CA cn cc, .slice (some ⟨yg, 0, none⟩) cn yc] w1 fun e w' => e = .returned (.tuple #[.bool R2, .int .i64 E2]) ∧ Below w1.heap.size w1 w') := fun w1 hb => by
          rw [← hR2, ← hE2]; exact (CL.out w1 _ _ _ _ ys (below_then HBW.out hb) (HX6.out.grow hb) (HY6.out.grow hb) HYL).1
        have C4 : Hid (∀ w1, Below wc.heap.size wc w1 → Calls Tryd.prog 18 #[.slice CA cn cc, .slice (some ⟨yg, 0, none⟩) cn yc] w1 fun e w' => e = .returned (.tuple #[.bool R2, .int .i64 E2]) ∧ Below w1.heap.size w1 w') := fun w1 hb => by
          rw [← hR2, ← hE2]; exact (CL.out w1 _ _ _ _ ys (below_then HBW.out hb) (HX6.out.grow hb) (HY6.out.grow hb) HYL).2
        clear hR2 hE2 CL HX6 HY6 HOY HBY
        go_upto_region 14 with (go_at_call 17; (with_reducible refine (C3.out _ (Below.refl _ _)).mono ?_); rintro e1 w8 ⟨rfl, hb8⟩)
        go_upto_region 15 with (go_at_call 18; (with_reducible refine (C4.out _ hb8).mono ?_); rintro e1 w9 ⟨rfl, hb9⟩)
        have hb10 := below_then HBW.out (below_then hb8 hb9)
        go_wp2_with (go_at_call 6; (with_reducible refine (CK.out _ hb10).mono ?_); rintro e1 w11 ⟨rfl, hb11⟩)
        go_ret
        exact ⟨by cases R1 <;> cases R2 <;> rfl, below_then hb10 hb11⟩
end Go.Proofs.YtemefigbnjkdoaaDoor
