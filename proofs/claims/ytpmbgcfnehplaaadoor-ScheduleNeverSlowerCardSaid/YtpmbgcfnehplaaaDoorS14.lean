/- The law ScheduleNeverSlower. -/
import Derived.Test.YtpmbgcfnehplaaaDoorPc
import Derived.Test.YtpmbgcfnehplaaaDoorPd
import Derived.Test.YtpmbgcfnehplaaaDoorS2
set_option linter.unusedVariables false
set_option linter.unusedSimpArgs false
namespace Go.Proofs.YtpmbgcfnehplaaaDoor
open Go.RowKit

theorem tr_best (l : List Ins) : Tr l (bestC l) := by
  unfold bestC; split
  · exact Tr.refl l
  · exact Tr.greedy l
theorem best_le (l : List Ins) : cycF (bestC l) ≤ cycF l := by
  unfold bestC; split
  · omega
  · omega
theorem ld_prgW {ops : Array Oper} {rest : List Oper} {o : Oper} {a : Act} {Q : Exit → Act → World → Prop} {w : World} {g : Nat} {L : List Value} (hb : Box w g L) (hL : L.length = 10) (hw : Region.wanted o (yielded ops a.tmps) = true) (x : Operand) (ho : o.op = .load 30 x) (hx : a.eval x = .pointer (some ⟨g, 0, none⟩)) (h : wpList Tryd.prog ops Q rest (a.put o.dst (.agg L.toArray)) w) : wpList Tryd.prog ops Q (o :: rest) a w := by
  obtain ⟨d, h1, h2⟩ := row_prg
  exact BigFrame.wpList_want hw fun K hK => wp_load_mid _ x ho g 0 hx L d (Box.range hb (fun j v hj => by rw [Nat.zero_add]; exact hj)) h1 h2 (by rw [hL]; exact size_prg) (hK _ _ h)
theorem lst_one (u : PrgA) : u.lst.all (·.oneCell') = true := rfl
theorem lst_ten (u : PrgA) : u.lst.length = 10 := rfl
theorem lst_nine {u : PrgA} {n : Nat} (h : u.d.code.length = n) : u.lst[9]? = some (.slice u.CA n u.cc) := by rw [← h]; rfl
set_option maxRecDepth 100000 in
set_option maxHeartbeats 8000000 in
theorem law_ScheduleNeverSlower (dd : DraftA) (w : World) (hf : FormsAt w) (hd : DraftOk w dd) :
    Calls Tryd.prog 3 #[dd.v] w fun e w' => e = .returned (.bool true) ∧ Below w.heap.size w w' := by
  have CK : Hid (∀ w1, Below w.heap.size w w1 → Calls Tryd.prog 9 #[] w1 fun e w' => e = .returned (.bool true) ∧ Below w1.heap.size w1 w') := Lib.hid fun w1 hb => known40 w1 (hf.grow hb)
  have hent : Below w.heap.size w (w.alloc (.cells #[.int .i64 dd.dn, .int .i64 dd.cn, .slice dd.RA dd.rs.length dd.rc, .slice dd.OA dd.os.length dd.oc, .slice dd.FA dd.fs.length dd.fc] 24)) := (Below.refl _ _).alloc (Nat.le_refl _) _
  have hbox : Box (w.alloc (.cells #[.int .i64 dd.dn, .int .i64 dd.cn, .slice dd.RA dd.rs.length dd.rc, .slice dd.OA dd.os.length dd.oc, .slice dd.FA dd.fs.length dd.fc] 24)) w.heap.size dd.lst := Box.new rfl
  have HF := Lib.hid hf
  have HDD := Lib.hid hd
  obtain ⟨D, hD⟩ : ∃ x, dd.d 30 = x := ⟨_, rfl⟩
  have hv : validB D = true := by rw [← hD]; exact prgF_valid _ _ _ _ _ 30 (by omega)
  have hfc := valid_fine hv
  obtain ⟨cn, hcn⟩ : ∃ x, D.code.length = x := ⟨_, rfl⟩
  have hcp := (valid_parts hv).2.2.1
  rw [hcn] at hcp
  have hrl := (valid_rl hv).1
  have hbn : (schD D).code.length = cn := by show (bestC D.code).length = cn; rw [best_len, hcn]
  have hll : lowD D.code ≤ cycF (bestC D.code) := low_tr (tr_best _) hfc
  have hbl := best_le D.code
  have hfb : fineF (bestC D.code) = true := (tr_best _).fine hfc
  have CP : Hid (∀ w1, Below w.heap.size w w1 → Calls Tryd.prog 4 #[dd.v, .int .i64 30] w1 (RetPrg w1 D)) := Lib.hid fun w1 hb => by
    rw [← hD]; exact dr_Code dd 30 w1 (HDD.out.grow hb) (by omega)
  have CS : Hid (∀ w1 u, Below w.heap.size w w1 → PrgAt w1 u → u.d = D → Calls Tryd.prog 5 #[.agg u.lst.toArray] w1 (RetPrgE w1 (schD D) 0)) := Lib.hid fun w1 u hb h1 h2 => by
    have h := sc_Schedule u w1 (HF.out.grow hb) h1 (by rw [h2]; exact hv)
    rw [h2] at h
    exact h
  have CR : Hid (∀ w1 u, PrgAt w1 u → u.d = D → Calls Tryd.prog 6 #[.agg u.lst.toArray] w1 (RetPrgE w1 (schD D) 0)) := Lib.hid fun w1 u h1 h2 => by
    have h := r40_Schedule u w1 h1 (by rw [h2]; exact hv)
    rw [h2] at h
    exact h
  have CT : Hid (∀ w1 Y yc ys, fineF ys = true → ys.length = cn → Below w.heap.size w w1 → InsAt w1 Y ys → Calls Tryd.prog 7 #[.slice Y cn yc] w1 fun e w' => e = .returned (.tuple #[.int .i64 (cycF ys), .int .i64 (stlF ys), .int .i64 0]) ∧ Below w1.heap.size w1 w') := Lib.hid fun w1 Y yc ys h1 h2 hb hy => by
    have h := sm_Time Y cn yc ys w1 (HF.out.grow hb) hy h2 (by omega)
    unfold RetTm at h
    have e2 : depE ys = 0 := by unfold depE; rw [if_pos h1]
    rw [e2] at h
    exact h
  have CL : Hid (∀ w1 X xc, Below w.heap.size w w1 → InsAt w1 X D.code → Calls Tryd.prog 8 #[.slice X cn xc] w1 fun e w' => e = .returned (.tuple #[.int .i64 (lowD D.code), .int .i64 0]) ∧ Below w1.heap.size w1 w') := Lib.hid fun w1 X xc hb hx => by
    have h := sc_Lower X cn xc D.code w1 (HF.out.grow hb) hx hcn (by omega)
    have e2 : depE D.code = 0 := by unfold depE; rw [if_pos hfc]
    rw [e2] at h
    exact h
  have CM : Hid (∀ w1 u v, PrgAt w1 u → PrgAt w1 v → u.d = schD D → v.d = schD D → Calls Tryd.prog 10 #[.agg u.lst.toArray, .agg v.lst.toArray] w1 fun e w' => e = .returned (.bool true) ∧ Below w1.heap.size w1 w') := Lib.hid fun w1 u v h1 h2 h3 h4 =>
    r38_SamePrograms u v w1 h1 h2 (by rw [h3, h4]) (by rw [h3]; show D.rg.length ≤ 1000; omega) (by rw [h3, hbn]; omega)
  have HBOX := Lib.hid hbox
  have HENT := Lib.hid hent
  have HCN := Lib.hid hcn
  have HBN := Lib.hid hbn
  have HBN2 : Hid ((bestC D.code).length = cn) := hbn
  have HFC := Lib.hid hfc
  have HFB := Lib.hid hfb
  obtain ⟨tA, htA⟩ : ∃ x, cycF D.code = x := ⟨_, rfl⟩
  obtain ⟨tB, htB⟩ : ∃ x, cycF (bestC D.code) = x := ⟨_, rfl⟩
  obtain ⟨tL, htL⟩ : ∃ x, lowD D.code = x := ⟨_, rfl⟩
  rw [htA, htB] at hbl
  rw [htB, htL] at hll
  have HTA := Lib.hid htA
  have HTB := Lib.hid htB
  rw [htL] at CL
  have d1 : decide (tB ≤ tA) = true := decide_eq_true hbl
  have d2 : decide (tL ≤ tB) = true := decide_eq_true hll
  clear hf hd hent hbox hcn hbn hfc hfb hv HDD hD htA htB htL
  go_enter Tryd.func3, Tryd.ntmps3
  go_upto_region 1 with fail
  have HE0 := HENT.out
  have HX0 := HBOX.out
  generalize w.alloc (.cells #[.int .i64 dd.dn, .int .i64 dd.cn, .slice dd.RA dd.rs.length dd.rc, .slice dd.OA dd.os.length dd.oc, .slice dd.FA dd.fs.length dd.fc] 24) = w0 at HE0 HX0 ⊢
  have HB0 := Lib.hid HE0
  have HX := Lib.hid HX0
  clear HE0 HX0 HENT HBOX
  go_upto_region 2 with (first
    | ((with_reducible show wpList _ _ _ (Oper.mk (some 16) (.load _ _) _ _ _ _ :: _) _ _); refine ld_dft HX.out rfl _ rfl rfl ?_)
    | (go_at_call 4; (with_reducible refine (CP.out _ HB0.out).mono ?_); rintro e1 w1 ⟨u, hu, rfl, hat, hb1⟩)
    | ((with_reducible show wpList _ _ _ (Oper.mk none (.store 30 _ _) _ _ _ _ :: _) _ _); refine st_prgB (w := w1.alloc (.cells zeros10.toArray 30)) (M := zeros10) (g := w1.heap.size) (Box.new rfl) rfl (L := u.lst) (lst_ten u) (lst_one u) rfl _ _ rfl rfl rfl ?_; intro W2 b2 p2))
  have hb2 := put_facts ((Below.refl w1.heap.size w1).alloc (Nat.le_refl _) (.cells zeros10.toArray 30)) (Nat.le_refl _) p2
  have HB2 := Lib.hid (below_then (below_then HB0.out hb1) hb2)
  have HP2 := Lib.hid b2
  have HA2 := Lib.hid (hat.grow hb2)
  have HU := Lib.hid hu
  clear hb1 hb2 b2 p2 hat hu CP HX HB0
  generalize w1.heap.size = g1 at HP2 ⊢
  go_upto_region 3 with (first
    | ((with_reducible show wpList _ _ _ (Oper.mk (some 19) (.load _ _) _ _ _ _ :: _) _ _); refine ld_prg HP2.out (lst_ten u) rfl _ rfl rfl ?_)
    | (go_at_call 5; (with_reducible refine (CS.out _ _ HB2.out HA2.out HU.out).mono ?_); rintro e1 w3 ⟨q, hq, rfl, hat, hb3⟩)
    | ((with_reducible show wpList _ _ _ (Oper.mk none (.store 30 _ _) _ _ _ _ :: _) _ _); refine st_prgB (w := w3.alloc (.cells zeros10.toArray 30)) (M := zeros10) (g := w3.heap.size) (Box.new rfl) rfl (L := q.lst) (lst_ten q) (lst_one q) rfl _ _ rfl rfl rfl ?_; intro W4 b4 p4))
  have hb4 := put_facts ((Below.refl w3.heap.size w3).alloc (Nat.le_refl _) (.cells zeros10.toArray 30)) (Nat.le_refl _) p4
  have hb34 := below_then hb3 hb4
  have HB4 := Lib.hid (below_then HB2.out hb34)
  have HP4 := Lib.hid (HP2.out.keep hb34)
  have HA4 := Lib.hid (HA2.out.grow hb34)
  have HQ4 := Lib.hid b4
  have HQA4 := Lib.hid (hat.grow hb4)
  have HQ := Lib.hid hq
  clear hb3 hb4 hb34 b4 p4 hat hq CS HP2 HA2 HB2
  generalize w3.heap.size = g2 at HQ4 ⊢
  go_upto_region 4 with (first
    | ((with_reducible show wpList _ _ _ (Oper.mk (some 24) (.load _ _) _ _ _ _ :: _) _ _); refine ld_prg HP4.out (lst_ten u) rfl _ rfl rfl ?_)
    | (go_at_call 6; (with_reducible refine (CR.out _ _ HA4.out HU.out).mono ?_); rintro e1 w5 ⟨r, hr, rfl, hat, hb5⟩)
    | ((with_reducible show wpList _ _ _ (Oper.mk none (.store 30 _ _) _ _ _ _ :: _) _ _); refine st_prgB (w := w5.alloc (.cells zeros10.toArray 30)) (M := zeros10) (g := w5.heap.size) (Box.new rfl) rfl (L := r.lst) (lst_ten r) (lst_one r) rfl _ _ rfl rfl rfl ?_; intro W6 b6 p6))
  have hb6 := put_facts ((Below.refl w5.heap.size w5).alloc (Nat.le_refl _) (.cells zeros10.toArray 30)) (Nat.le_refl _) p6
  have hb56 := below_then hb5 hb6
  have HB6 := Lib.hid (below_then HB4.out hb56)
  have HP6 := Lib.hid (HP4.out.keep hb56)
  have HA6 := Lib.hid (HA4.out.grow hb56)
  have HQ6 := Lib.hid (HQ4.out.keep hb56)
  have HQA6 := Lib.hid (HQA4.out.grow hb56)
  have HR6 := Lib.hid b6
  have HRA6 := Lib.hid (hat.grow hb6)
  have HR := Lib.hid hr
  clear hb5 hb6 hb56 b6 p6 hat hr CR HP4 HA4 HB4 HQ4 HQA4
  generalize w5.heap.size = g3 at HR6 ⊢
  have x9 : W6.cell? ⟨g1, 9, none⟩ = some (.slice u.CA cn u.cc) := (HP6.out.2.1 9).trans (lst_nine (by rw [HU.out]; exact HCN.out))
  have HI6 : Hid (InsAt W6 u.CA D.code) := by rw [← HU.out]; exact Lib.hid HA6.out.2
  go_upto_region 5 with (go_at_call 7; (with_reducible refine (CT.out _ _ _ _ HFC.out HCN.out HB6.out HI6.out).mono ?_); rintro e1 w7 ⟨rfl, hb7⟩; rw [HTA.out])
  have HB7 := Lib.hid (below_then HB6.out hb7)
  have HP7 := Lib.hid (HP6.out.keep hb7)
  have HI7 := Lib.hid (HI6.out.grow hb7)
  have HQ7 := Lib.hid (HQ6.out.keep hb7)
  have HQA7 := Lib.hid (HQA6.out.grow hb7)
  have HR7 := Lib.hid (HR6.out.keep hb7)
  have HRA7 := Lib.hid (HRA6.out.grow hb7)
  have x9 : w7.cell? ⟨g2, 9, none⟩ = some (.slice q.CA cn q.cc) := (HQ7.out.2.1 9).trans (lst_nine (by rw [HQ.out]; exact HBN.out))
  have HJ7 : Hid (InsAt w7 q.CA (bestC D.code)) := by
    have h := HQA7.out.2
    rw [HQ.out] at h
    exact Lib.hid h
  clear hb7 HP6 HI6 HQ6 HQA6 HR6 HRA6 HB6 HA6
  go_upto_region 6 with (go_at_call 7; (with_reducible refine (CT.out _ _ _ _ HFB.out HBN2.out HB7.out HJ7.out).mono ?_); rintro e1 w8 ⟨rfl, hb8⟩; rw [HTB.out])
  have HB8 := Lib.hid (below_then HB7.out hb8)
  have HP8 := Lib.hid (HP7.out.keep hb8)
  have HI8 := Lib.hid (HI7.out.grow hb8)
  have HQ8 := Lib.hid (HQ7.out.keep hb8)
  have HQA8 := Lib.hid (HQA7.out.grow hb8)
  have HR8 := Lib.hid (HR7.out.keep hb8)
  have HRA8 := Lib.hid (HRA7.out.grow hb8)
  have x9 : w8.cell? ⟨g1, 9, none⟩ = some (.slice u.CA cn u.cc) := (HP8.out.2.1 9).trans (lst_nine (by rw [HU.out]; exact HCN.out))
  clear hb8 HP7 HI7 HQ7 HQA7 HR7 HRA7 HB7 HJ7
  go_upto_region 7 with (go_at_call 8; (with_reducible refine (CL.out _ _ _ HB8.out HI8.out).mono ?_); rintro e1 w9 ⟨rfl, hb9⟩)
  have HB9 := Lib.hid (below_then HB8.out hb9)
  have HQ9 := Lib.hid (HQ8.out.keep hb9)
  have HQA9 := Lib.hid (HQA8.out.grow hb9)
  have HR9 := Lib.hid (HR8.out.keep hb9)
  have HRA9 := Lib.hid (HRA8.out.grow hb9)
  clear hb9 HP8 HI8 HQ8 HQA8 HR8 HRA8 HB8 x9
  go_wp2_with (first
    | (go_at_call 9; (with_reducible refine (CK.out _ HB9.out).mono ?_); rintro e1 w10 ⟨rfl, hb10⟩)
    | ((with_reducible show wpList _ _ _ (Oper.mk (some 70) (.load _ _) _ _ _ _ :: _) _ _); refine ld_prgW (HQ9.out.keep hb10) (lst_ten q) rfl _ rfl rfl ?_)
    | ((with_reducible show wpList _ _ _ (Oper.mk (some 71) (.load _ _) _ _ _ _ :: _) _ _); refine ld_prgW (HR9.out.keep hb10) (lst_ten r) rfl _ rfl rfl ?_)
    | (go_at_call 10; (with_reducible refine (CM.out _ _ _ (HQA9.out.grow hb10) (HRA9.out.grow hb10) HQ.out HR.out).mono ?_); rintro e1 w11 ⟨rfl, hb11⟩))
  go_ret
  exact ⟨rfl, below_then (below_then HB9.out hb10) hb11⟩
end Go.Proofs.YtpmbgcfnehplaaaDoor
