/- Several texts in one: S30 S31 S33 Of. -/
import Derived.Test.YtgdccmmcjicgkaaDoortS28
import Derived.Test.YtgdccmmcjicgkaaDoortS25
import Derived.Test.YtgdccmmcjicgkaaDoortU3toJ
import Derived.Test.YtgdccmmcjicgkaaDoortE1toI0
import Derived.Test.YtgdccmmcjicgkaaDoortS22toS14
import Derived.Test.YtgdccmmcjicgkaaDoortE31toU5
import Derived.Test.YtgdccmmcjicgkaaDoortE23toE21
import Derived.Test.YtgdccmmcjicgkaaDoortOdtoS26
import Derived.Test.YtgdccmmcjicgkaaDoortAtoU
import Derived.Deep.DeepCutAuto
import Derived.Handy
import Derived.Test.YtgdccmmcjicgkaaDoortE5toE14
import Derived.ProofKit
import Derived.LaidMore
import Derived.OpenShut
import Derived.MakeChecks
set_option linter.unusedVariables false
set_option linter.unusedSimpArgs false
section
namespace Go.Proofs.YtgdccmmcjicgkaaDoor
open Go.RowKit
def RetRunR (w : World) (d : PrgD) (m : Mac) (xs : List Int) (e : Ending) (w' : World) : Prop := ∃ (A : Option Addr) (c : Nat) (z : MacA), z.m = runM d m xs ∧ e = .returned (.tuple #[.slice A (runO d m xs).length c, z.v, .int .i64 (runV d m xs), .int .i64 0]) ∧ Own w.heap.size w' (.slice A (runO d m xs).length c) (runO d m xs) ∧ MacAt w' z ∧ MacF w.heap.size w' z ∧ Below w.heap.size w w'
theorem RetRunS.toR {w : World} {d : PrgD} {m : Mac} {xs : List Int} {e : Ending} {w' : World} (h : RetRunS w d m xs e w') : RetRunR w d m xs e w' := by
  obtain ⟨vo, vg, vm, vh, e1, ho, hm, hb⟩ := h
  obtain ⟨A, c, rfl, -⟩ := own_form ho.1
  obtain ⟨A1, c1, rfl, -⟩ := own_form hm.regs.1
  obtain ⟨A2, c2, rfl, -⟩ := own_form hm.mem.1
  obtain ⟨A3, c3, rfl, -⟩ := own_form hm.heads.1
  exact ⟨A, c, ⟨runM d m xs, A1, A2, A3, c1, c2, c3⟩, rfl, e1, ho, ⟨hm.regs.ints, hm.mem.ints, hm.heads.ints⟩, ⟨fun _ => own_ty hm.regs, fun _ => own_ty hm.mem, fun _ => own_ty hm.heads⟩, hb⟩
theorem sm_RunR (u : PrgA) (x : MacA) (XA : Option Addr) (xn xc : Nat) (xs : List Int) (w : World) (hf : FormsAt w) (hp : PrgAt w u) (hx : MacAt w x) (hi : Ints w XA xs) (hm : macB u.d x.m = true) (hw : wordD u.d xs = true) (hn : xs.length = xn) (h4 : xn ≤ 4096) :
    Calls Tryd.prog 24 #[u.v, x.v, .slice XA xn xc] w (RetRunR w u.d x.m xs) := (sm_Run u x XA xn xc xs w hf hp hx hi hm hw hn h4).mono fun _ _ h => h.toR
end Go.Proofs.YtgdccmmcjicgkaaDoor
end
section
namespace Go.Proofs.YtgdccmmcjicgkaaDoor
open Go.RowKit
theorem rdF_ge (R : List Int) : ∀ (rs : List Int) (N : Int), N ≤ rdF R N rs
  | [], N => Int.le_refl _
  | s :: rs, N => by
    show N ≤ rdF R (if s < 8 then max N (R.getD s.toNat 0) else N) rs
    have := rdF_ge R rs (if s < 8 then max N (R.getD s.toNat 0) else N)
    split at this <;> rename_i h <;> simp only [h, if_true, if_false] at * <;> omega
theorem tmF_ge (l : List Ins) : ∀ t : Int × List Int, t.1 + l.length ≤ (l.foldl tmS t).1 := by
  induction l with
  | nil => intro t; show t.1 + 0 ≤ t.1; omega
  | cons i l ih =>
    intro t
    have h := ih (tmS t i)
    have h2 := rdF_ge t.2 i.rd t.1
    show t.1 + ((l.length + 1 : Nat) : Int) ≤ (l.foldl tmS (tmS t i)).1
    have e : (tmS t i).1 = rdF t.2 t.1 i.rd + 1 := rfl
    omega
theorem stlF_pos {l : List Ins} (h : fineF l = true) : 0 ≤ stlF l ∧ cycF l = l.length + stlF l := by
  have := tmF_ge l (0, List.replicate 8 0)
  unfold stlF cycF
  rw [if_pos h, if_pos h]
  unfold tmF
  simp only at this
  omega
theorem bld_ins3 {ops : Array Oper} {rest : List Oper} {o : Oper} {a : Act} {Q : Exit → Act → World → Prop} {w : World} (i0 i1 i2 : Ins) (hgd : o.guard = none) (x0 x1 x2 : Operand) (ho : o.op = .buildSlice 22 3 #[(0, x0), (1, x1), (2, x2)]) (h0 : a.eval x0 = i0.v) (h1 : a.eval x1 = i1.v) (h2 : a.eval x2 = i2.v)
    (h : wpList Tryd.prog ops Q rest (a.put o.dst (.slice (some ⟨w.heap.size, 0, none⟩) 3 3)) (litI w [i0, i1, i2])) : wpList Tryd.prog ops Q (o :: rest) a w :=
  wp_bldS hgd 22 24 3 _ ho und_ins 4 size_ins (by decide) (by decide) _ rfl (by show builtS Tryd.prog 24 3 [(0, a.eval x0), (1, a.eval x1), (2, a.eval x2)] = _; rw [h0, h1, h2]; kernel_rfl) h
abbrev kn39a : List Ins := [⟨6, 0, 0, 0⟩, ⟨10, 0, 0, 0⟩, ⟨0, 0, 0, 0⟩]
abbrev kn39b : List Ins := [⟨1, 0, 0, 0⟩, ⟨5, 1, 0, 0⟩, ⟨10, 1, 0, 0⟩, ⟨0, 0, 0, 0⟩]
theorem kn39a_time : cycF kn39a = 4 ∧ stlF kn39a = 1 ∧ depE kn39a = 0 := by decide +kernel
theorem kn39b_time : cycF kn39b = 6 ∧ stlF kn39b = 2 ∧ depE kn39b = 0 := by decide +kernel
theorem kn39a_ok : ∀ i ∈ kn39a, i.ok := by unfold Ins.ok I64; decide +kernel
theorem kn39b_ok : ∀ i ∈ kn39b, i.ok := by unfold Ins.ok I64; decide +kernel
set_option maxRecDepth 100000 in
set_option maxHeartbeats 4000000 in
theorem known39 (w : World) (hf : FormsAt w) : Calls Tryd.prog 20 #[] w fun e w' => e = .returned (.bool true) ∧ Below w.heap.size w w' := by
  have HF := Lib.hid hf
  have C1 : Hid (∀ w1 A c, Below w.heap.size w w1 → InsAt w1 A kn39a → Calls Tryd.prog 30 #[.slice A 3 c] w1 fun e w' => e = .returned (.tuple #[.int .i64 4, .int .i64 1, .int .i64 0]) ∧ Below w1.heap.size w1 w') := Lib.hid fun w1 A c hb hi => by
    have := sm_Time A 3 c kn39a w1 (HF.out.grow hb) hi rfl (by decide)
    unfold RetTime at this
    rw [kn39a_time.1, kn39a_time.2.1, kn39a_time.2.2] at this
    exact this
  have C2 : Hid (∀ w1 A c, Below w.heap.size w w1 → InsAt w1 A kn39b → Calls Tryd.prog 30 #[.slice A 4 c] w1 fun e w' => e = .returned (.tuple #[.int .i64 6, .int .i64 2, .int .i64 0]) ∧ Below w1.heap.size w1 w') := Lib.hid fun w1 A c hb hi => by
    have := sm_Time A 4 c kn39b w1 (HF.out.grow hb) hi rfl (by decide)
    unfold RetTime at this
    rw [kn39b_time.1, kn39b_time.2.1, kn39b_time.2.2] at this
    exact this
  clear hf
  go_enter Tryd.func20, Tryd.ntmps20
  go_upto_region 2 with (first
    | ((with_reducible show wpList _ _ _ (Oper.mk (some 11) _ _ _ _ _ :: _) _ _); refine bld_ins3 ⟨6, 0, 0, 0⟩ ⟨10, 0, 0, 0⟩ ⟨0, 0, 0, 0⟩ rfl _ _ _ rfl rfl rfl rfl ?_)
    | (go_at_call 30; (with_reducible refine (C1.out _ _ _ (litI_below w kn39a) (InsAt.lit kn39a_ok)).mono ?_); rintro e1 w1 ⟨rfl, hb1⟩))
  have HB2 := Lib.hid (below_then (litI_below w kn39a) hb1)
  clear hb1
  go_upto_region 3 with (first
    | ((with_reducible show wpList _ _ _ (Oper.mk (some 21) _ _ _ _ _ :: _) _ _); refine bld_ins4 ⟨1, 0, 0, 0⟩ ⟨5, 1, 0, 0⟩ ⟨10, 1, 0, 0⟩ ⟨0, 0, 0, 0⟩ rfl _ _ _ _ rfl rfl rfl rfl rfl ?_)
    | (go_at_call 30; (with_reducible refine (C2.out _ _ _ (below_then HB2.out (litI_below w1 kn39b)) (InsAt.lit kn39b_ok)).mono ?_); rintro e2 w2 ⟨rfl, hb3⟩))
  have HB4 := Lib.hid (below_then HB2.out (below_then (litI_below w1 kn39b) hb3))
  clear hb3
  go_wp2_with fail
  go_ret
  exact ⟨rfl, HB4.out⟩
end Go.Proofs.YtgdccmmcjicgkaaDoor
end
section
namespace Go.Proofs.YtgdccmmcjicgkaaDoor
open Go.RowKit
set_option maxRecDepth 100000 in
set_option maxHeartbeats 16000000 in
theorem law_SimulateTimes (u : Option Addr × Nat × List Ins) (dd : DraftA) (i : Option Addr × Nat × List Int) (w : World) (hf : FormsAt w) (hu : InsAt w u.1 u.2.2 ∧ u.2.2.length ≤ 9223372036854775807) (hd : DraftOk w dd) (hi : Ints w i.1 i.2.2 ∧ i.2.2.length ≤ 9223372036854775807) :
    Calls Tryd.prog 6 #[.slice u.1 u.2.2.length u.2.1, dd.v, .slice i.1 i.2.2.length i.2.1] w fun e w' => e = .returned (.bool true) ∧ Below w.heap.size w w' := by
  obtain ⟨LA, lc, ll⟩ := u
  obtain ⟨XA, xc, xs⟩ := i
  obtain ⟨hli, hl9⟩ := hu
  obtain ⟨hxi, hx9⟩ := hi
  simp only at hli hl9 hxi hx9 ⊢
  obtain ⟨ln, hln⟩ : ∃ n, ll.length = n := ⟨_, rfl⟩
  obtain ⟨xn, hxn⟩ : ∃ n, xs.length = n := ⟨_, rfl⟩
  rw [hln] at hl9 ⊢
  rw [hxn] at hx9 ⊢
  have CK : Hid (∀ w1, Below w.heap.size w w1 → Calls Tryd.prog 20 #[] w1 fun e w' => e = .returned (.bool true) ∧ Below w1.heap.size w1 w') := Lib.hid fun w1 hb => known39 w1 (hf.grow hb)
  have hent : Below w.heap.size w (w.alloc (.cells #[.int .i64 dd.dn, .int .i64 dd.cn, .slice dd.RA dd.rs.length dd.rc, .slice dd.OA dd.os.length dd.oc, .slice dd.FA dd.fs.length dd.fc] 38)) := (Below.refl _ _).alloc (Nat.le_refl _) _
  have hbox : Box (w.alloc (.cells #[.int .i64 dd.dn, .int .i64 dd.cn, .slice dd.RA dd.rs.length dd.rc, .slice dd.OA dd.os.length dd.oc, .slice dd.FA dd.fs.length dd.fc] 38)) w.heap.size dd.lst := Box.new rfl
  have HENT := Lib.hid hent
  have HBOX := Lib.hid hbox
  by_cases h25 : (100 : Int) < (ln : Int)
  · clear hf hd hli hxi hent hbox
    go_enter Tryd.func6, Tryd.ntmps6
    go_wp2_with (go_at_call 20; (with_reducible refine (CK.out _ HENT.out).mono ?_); rintro e1 w1 ⟨rfl, hb1⟩)
    go_ret
    exact ⟨rfl, below_then HENT.out hb1⟩
  by_cases h10 : (10 : Int) < (xn : Int)
  · clear hf hd hli hxi hent hbox
    go_enter Tryd.func6, Tryd.ntmps6
    go_wp2_with (go_at_call 20; (with_reducible refine (CK.out _ HENT.out).mono ?_); rintro e1 w1 ⟨rfl, hb1⟩)
    go_ret
    exact ⟨rfl, below_then HENT.out hb1⟩
  have hx10 : xn ≤ 10 := by omega
  obtain ⟨D, hD⟩ : ∃ x, dd.d 30 = x := ⟨_, rfl⟩
  have hv : validB D = true := by rw [← hD]; exact prgF_valid _ _ _ _ _ 30 (by omega)
  have CP : Hid (∀ w1, Below w.heap.size w w1 → Calls Tryd.prog 21 #[dd.v, .int .i64 30] w1 (RetPrg w1 D)) := Lib.hid fun w1 hb => by
    rw [← hD]; exact dr_Code dd 30 w1 (hd.grow hb) (by omega)
  obtain ⟨M, hM⟩ : ∃ m, mac0 D = m := ⟨_, rfl⟩
  have hmv : macB D M = true := by rw [← hM]; exact mac0_valid hv
  obtain ⟨X, hX⟩ : ∃ x, wordsF D.d0 D.d1 D.d2 D.d3 xs xn = x := ⟨_, rfl⟩
  have hXl : X.length = xn := by rw [← hX, wordsF_length]
  have hXw : wordD D X = true := by rw [← hX]; exact wordD_wordsF (valid_words hv).1 xs xn
  have hcl := (valid_parts hv).2.2.1
  have hrl := (valid_rl hv).1
  have hfi := valid_fine hv
  obtain ⟨hst0, hcst⟩ := stlF_pos hfi
  have hde : depE D.code = 0 := by unfold depE; rw [if_pos hfi]
  obtain ⟨htc, hts⟩ := time_in (l := D.code) hcl.2
  have CW : Hid (∀ w1, Below w.heap.size w w1 → Calls Tryd.prog 23 #[wordV D.d0 D.d1 D.d2 D.d3, .slice XA xn xc, .int .i64 (xn : Int)] w1 fun e w' => ∃ v, e = .returned v ∧ Own w1.heap.size w' v X ∧ Below w1.heap.size w1 w') := Lib.hid fun w1 hb => by
    subst hxn
    rw [← hX]
    exact wd_Words _ _ _ _ XA xs xc xs.length w1 (by omega) (hxi.grow hb)
  have CS : Hid (∀ w1 v, Below w.heap.size w w1 → PrgAt w1 v → v.d = D → Calls Tryd.prog 32 #[.agg v.lst.toArray] w1 fun e w' => ∃ x : MacA, x.m = M ∧ e = .returned (.tuple #[.agg x.lst.toArray, .int .i64 0]) ∧ MacAt w' x ∧ Below w1.heap.size w1 w') := Lib.hid fun w1 v hb h1 h2 => by
    have h := sm_Start v w1 (hf.grow hb) h1 (by rw [h2]; omega) (by rw [h2]; omega)
    unfold RetMacE startM startE at h
    rw [h2, if_pos hv, if_pos hv, hM] at h
    exact h
  have hrt := runM_time D X M
  have hm0 : M.cyc = 0 ∧ M.stl = 0 := by rw [← hM]; exact ⟨rfl, rfl⟩
  obtain ⟨OL, hOL⟩ : ∃ o, runO D M X = o := ⟨_, rfl⟩
  obtain ⟨V, hV⟩ : ∃ o, runV D M X = o := ⟨_, rfl⟩
  obtain ⟨ME, hME⟩ : ∃ m, runM D M X = m := ⟨_, rfl⟩
  obtain ⟨CY, hCY⟩ : ∃ m, cycF D.code = m := ⟨_, rfl⟩
  obtain ⟨ST, hST⟩ : ∃ m, stlF D.code = m := ⟨_, rfl⟩
  obtain ⟨cn, hcn⟩ : ∃ m, D.code.length = m := ⟨_, rfl⟩
  have hol : OL.length = xn := by rw [← hOL, runO_len]; exact hXl
  rw [hME, hm0.1, hm0.2, hCY, hST, hXl] at hrt
  rw [hCY] at htc
  rw [hST] at hts
  rw [hCY, hST, hcn] at hcst
  rw [hST] at hst0
  rw [hcn] at hcl
  have CR : Hid (∀ w1 v (x : MacA) A c, Below w.heap.size w w1 → PrgAt w1 v → v.d = D → MacAt w1 x → x.m = M → Ints w1 A X → Calls Tryd.prog 24 #[.agg v.lst.toArray, .agg x.lst.toArray, .slice A xn c] w1 fun e w' => ∃ (A : Option Addr) (c : Nat) (z : MacA), (z.m.cyc = (xn : Int) * CY ∧ z.m.stl = (xn : Int) * ST) ∧ e = .returned (.tuple #[.slice A xn c, .agg z.lst.toArray, .int .i64 V, .int .i64 0]) ∧ Below w1.heap.size w1 w') := Lib.hid fun w1 v x A c hb h1 h2 h3 h4 h5 => by
    have h := sm_RunR v x A xn c X w1 (hf.grow hb) h1 h3 h5 (by rw [h2, h4]; exact hmv) (by rw [h2]; exact hXw) hXl (by omega)
    unfold RetRunR at h
    rw [h2, h4, hME, hOL, hV, hol] at h
    refine h.mono ?_
    rintro e w' ⟨A, c, z, h1, h2, h3, h4, h5, h6⟩
    exact ⟨A, c, z, ⟨by rw [h1, hrt.1]; omega, by rw [h1, hrt.2]; omega⟩, h2, h6⟩
  obtain ⟨C1, hC1⟩ : ∃ m, cycF ll = m := ⟨_, rfl⟩
  obtain ⟨S1, hS1⟩ : ∃ m, stlF ll = m := ⟨_, rfl⟩
  obtain ⟨E1, hE1⟩ : ∃ m, depE ll = m := ⟨_, rfl⟩
  have CT1 : Hid (∀ w1, Below w.heap.size w w1 → Calls Tryd.prog 30 #[.slice LA ln lc] w1 fun e w' => e = .returned (.tuple #[.int .i64 C1, .int .i64 S1, .int .i64 E1]) ∧ Below w1.heap.size w1 w') := Lib.hid fun w1 hb => by
    have h := sm_Time LA ln lc ll w1 (hf.grow hb) (hli.grow hb) hln hl9
    unfold RetTime at h
    rw [hC1, hS1, hE1] at h
    exact h
  have CT2 : Hid (∀ w1, Below w.heap.size w w1 → Calls Tryd.prog 31 #[.slice LA ln lc] w1 fun e w' => e = .returned (.tuple #[.int .i64 C1, .int .i64 S1, .int .i64 E1]) ∧ Below w1.heap.size w1 w') := Lib.hid fun w1 hb => by
    have h := r39_Time LA ln lc ll w1 (hli.grow hb) hln hl9
    unfold RetTime at h
    rw [hC1, hS1, hE1] at h
    exact h
  have CT3 : Hid (∀ w1 A c, Below w.heap.size w w1 → InsAt w1 A D.code → Calls Tryd.prog 30 #[.slice A cn c] w1 fun e w' => e = .returned (.tuple #[.int .i64 CY, .int .i64 ST, .int .i64 0]) ∧ Below w1.heap.size w1 w') := Lib.hid fun w1 A c hb hi => by
    have h := sm_Time A cn c D.code w1 (hf.grow hb) hi hcn (by omega)
    unfold RetTime at h
    rw [hCY, hST, hde] at h
    exact h
  have HXL := Lib.hid hXl
  have HCN := Lib.hid hcn
  have hmu1 := mul_in (a := (xn : Int)) (b := CY) (A := 10) (B := 2048) (by omega) (by omega) htc.1 htc.2
  have hmu2 := mul_in (a := (xn : Int)) (b := ST) (A := 10) (B := 2048) (by omega) (by omega) hst0 hts.2
  have wm1 : IntKind.i64.wrap ((xn : Int) * CY) = (xn : Int) * CY := IntWalk.i64_in _ (by omega)
  have wm2 : IntKind.i64.wrap ((xn : Int) * ST) = (xn : Int) * ST := IntWalk.i64_in _ (by omega)
  have wm3 : IntKind.i64.wrap ((cn : Int) + ST) = CY := by rw [← hcst]; exact IntWalk.i64_in _ (by omega)
  obtain ⟨NC, hNC⟩ : ∃ m, (xn : Int) * CY = m := ⟨_, rfl⟩
  obtain ⟨NS, hNS⟩ : ∃ m, (xn : Int) * ST = m := ⟨_, rfl⟩
  rw [hNC, hNS] at CR
  rw [hNC] at wm1
  rw [hNS] at wm2
  have hge : decide (0 ≤ ST) = true := decide_eq_true hst0
  clear hf hd hli hxi hent hbox hv hmv hXl hXw hrl hcl hfi hcst hde htc hts hrt hm0 hOL hV hME hCY hST hol hC1 hS1 hE1 hmu1 hmu2 hD hM hX hln hxn hcn
  go_enter Tryd.func6, Tryd.ntmps6
  go_upto_region 3 with fail
  have HE0 := HENT.out
  have HX0 := HBOX.out
  generalize w.alloc (.cells #[.int .i64 dd.dn, .int .i64 dd.cn, .slice dd.RA dd.rs.length dd.rc, .slice dd.OA dd.os.length dd.oc, .slice dd.FA dd.fs.length dd.fc] 38) = w0 at HE0 HX0 ⊢
  have HB0 := Lib.hid HE0
  have HX := Lib.hid HX0
  clear HE0 HX0 HENT HBOX
  go_upto_region 4 with (go_at_call 30; (with_reducible refine (CT1.out _ HB0.out).mono ?_); rintro e1 w1 ⟨rfl, hb1⟩)
  go_upto_region 5 with (go_at_call 31; (with_reducible refine (CT2.out _ (below_then HB0.out hb1)).mono ?_); rintro e2 w2 ⟨rfl, hb2⟩)
  have hb12 := below_then hb1 hb2
  have HB1 := Lib.hid (below_then HB0.out hb12)
  have HX1 := Lib.hid (HX.out.keep hb12)
  clear hb1 hb2 hb12 HB0 HX CT1 CT2
  go_upto_region 6 with (first
    | ((with_reducible show wpList _ _ _ (Oper.mk _ (.load 38 _) _ _ _ _ :: _) _ _); refine ld_dft HX1.out rfl _ rfl rfl ?_)
    | (go_at_call 21; (with_reducible refine (CP.out _ HB1.out).mono ?_); rintro e3 w3 ⟨v, hu, rfl, hat, hb3⟩)
    | ((with_reducible show wpList _ _ _ (Oper.mk none (.store 43 _ _) _ _ _ _ :: _) _ _); refine st_prgB (w := w3.alloc (.cells zeros10.toArray 43)) (M := zeros10) (g := w3.heap.size) (Box.new rfl) rfl (L := v.lst) (lst_ten v) (lst_one v) rfl _ _ rfl rfl rfl ?_; intro W2 b2 p2))
  have hb2 := put_facts ((Below.refl w3.heap.size w3).alloc (Nat.le_refl _) (.cells zeros10.toArray 43)) (Nat.le_refl _) p2
  have HB2 := Lib.hid (below_then (below_then HB1.out hb3) hb2)
  have HP2 := Lib.hid b2
  have HA2 := Lib.hid (hat.grow hb2)
  have HU := Lib.hid hu
  clear hb3 hb2 b2 p2 hat hu CP HX1 HB1
  generalize w3.heap.size = gp at HP2 ⊢
  -- the words
  have x0 : W2.cell? ⟨gp, 0, none⟩ = some (.int .i64 D.d0) := by rw [← HU.out]; exact HP2.out.2.1 0
  have x1 : W2.cell? ⟨gp, 1, none⟩ = some (.int .i64 D.d1) := by rw [← HU.out]; exact HP2.out.2.1 1
  have x2 : W2.cell? ⟨gp, 2, none⟩ = some (.int .i64 D.d2) := by rw [← HU.out]; exact HP2.out.2.1 2
  have x3 : W2.cell? ⟨gp, 3, none⟩ = some (.int .i64 D.d3) := by rw [← HU.out]; exact HP2.out.2.1 3
  go_upto_region 7 with (go_at_call 23; (with_reducible refine (CW.out _ HB2.out).mono ?_); rintro e4 W4 ⟨v4, rfl, ho4, hb4⟩; obtain ⟨XB, xb, rfl, -⟩ := own_form ho4.1; rw [HXL.out] at ho4 ⊢)
  clear x0 x1 x2 x3
  have HB4 := Lib.hid (below_then HB2.out hb4)
  have HP4 := Lib.hid (HP2.out.keep hb4)
  have HA4 := Lib.hid (HA2.out.grow hb4)
  have HXI4 : Hid (Ints W4 XB X) := Lib.hid ho4.ints
  clear ho4 hb4 HB2 HP2 HA2 CW
  -- Start
  go_upto_region 8 with (first
    | ((with_reducible show wpList _ _ _ (Oper.mk _ (.load 43 _) _ _ _ _ :: _) _ _); refine ld_prg HP4.out (lst_ten v) rfl _ rfl rfl ?_)
    | (go_at_call 32; (with_reducible refine (CS.out _ _ HB4.out HA4.out HU.out).mono ?_); rintro e5 w5 ⟨x5, hx5, rfl, ha5, hb5⟩)
    | ((with_reducible show wpList _ _ _ (Oper.mk _ (.store 46 _ _) _ _ _ _ :: _) _ _); refine st_mac (L := x5.lst) (Box.new (w := w5) (t := 46) (vs := zeros5.toArray) rfl) rfl rfl rfl rfl _ _ rfl rfl rfl ?_; intro W6 hb6 hg6))
  have hb56 := put_facts ((Below.refl w5.heap.size w5).alloc (Nat.le_refl _) (.cells zeros5.toArray 46)) (Nat.le_refl _) hg6
  have hbb := below_then hb5 hb56
  have HB6 := Lib.hid (below_then HB4.out hbb)
  have HP6 := Lib.hid (HP4.out.keep hbb)
  have HA6 := Lib.hid (HA4.out.grow hbb)
  have HXI6 : Hid (Ints W6 XB X) := Lib.hid (HXI4.out.grow hbb)
  have HMB6 := Lib.hid hb6
  have HMA6 := Lib.hid (ha5.grow hb56)
  have HXM := Lib.hid hx5
  clear hb5 ha5 hx5 hb6 hg6 hb56 hbb HB4 HP4 HA4 HXI4 CS
  generalize w5.heap.size = gm at HMB6 ⊢
  -- Run
  go_upto_region 9 with (first
    | ((with_reducible show wpList _ _ _ (Oper.mk _ (.load 43 _) _ _ _ _ :: _) _ _); refine ld_prg HP6.out (lst_ten v) rfl _ rfl rfl ?_)
    | ((with_reducible show wpList _ _ _ (Oper.mk _ (.load 46 _) _ _ _ _ :: _) _ _); refine ld_mac HMB6.out rfl rfl _ rfl rfl ?_)
    | (go_at_call 24; (with_reducible refine (CR.out _ _ _ _ _ HB6.out HA6.out HU.out HMA6.out HXM.out HXI6.out).mono ?_); rintro e7 w7 ⟨A7, c7, z7, hz7, rfl, hb7⟩)
    | ((with_reducible show wpList _ _ _ (Oper.mk _ (.store 46 _ _) _ _ _ _ :: _) _ _); refine st_mac (L := z7.lst) (Box.new (w := w7) (t := 46) (vs := zeros5.toArray) rfl) rfl rfl rfl rfl _ _ rfl rfl rfl ?_; intro W8 hb8 hg8))
  have hb78 := put_facts ((Below.refl w7.heap.size w7).alloc (Nat.le_refl _) (.cells zeros5.toArray 46)) (Nat.le_refl _) hg8
  have hbb := below_then hb7 hb78
  have HB8 := Lib.hid (below_then HB6.out hbb)
  have HP8 := Lib.hid (HP6.out.keep hbb)
  have HA8 := Lib.hid (HA6.out.grow hbb)
  have HEB8 := Lib.hid hb8
  have HZ7 := Lib.hid hz7
  clear hb7 hz7 hb8 hg8 hb78 hbb HB6 HP6 HA6 HXI6 HMB6 HMA6 CR
  generalize w7.heap.size = ge at HEB8 ⊢
  -- Time of the code
  have y9 : W8.cell? ⟨gp, 9, none⟩ = some (.slice v.CA cn v.cc) := by rw [← HCN.out, ← HU.out]; exact HP8.out.2.1 9
  have HI8 : Hid (InsAt W8 v.CA D.code) := by rw [← HU.out]; exact Lib.hid HA8.out.2
  go_upto_region 10 with (go_at_call 30; (with_reducible refine (CT3.out _ _ _ HB8.out HI8.out).mono ?_); rintro e9 w9 ⟨rfl, hb9⟩)
  clear y9
  have HB9 := Lib.hid (below_then HB8.out hb9)
  have HP9 := Lib.hid (HP8.out.keep hb9)
  have HEB9 := Lib.hid (HEB8.out.keep hb9)
  clear hb9 HI8 HB8 HP8 HA8 HEB8 CT3

  have d_C1 : decide (C1 = C1) = true := decide_eq_true rfl
  have b_C1 : (C1 == C1) = true := by simp
  have d_S1 : decide (S1 = S1) = true := decide_eq_true rfl
  have b_S1 : (S1 == S1) = true := by simp
  have d_E1 : decide (E1 = E1) = true := decide_eq_true rfl
  have b_E1 : (E1 == E1) = true := by simp
  have d_NC : decide (NC = NC) = true := decide_eq_true rfl
  have b_NC : (NC == NC) = true := by simp
  have d_NS : decide (NS = NS) = true := decide_eq_true rfl
  have b_NS : (NS == NS) = true := by simp
  have d_CY : decide (CY = CY) = true := decide_eq_true rfl
  have b_CY : (CY == CY) = true := by simp
  go_wp2_with (go_at_call 20; (with_reducible refine (CK.out _ HB9.out).mono ?_); rintro e10 w10 ⟨rfl, hb10⟩; have z3 : w10.cell? ⟨ge, 3, none⟩ = some (.int .i64 NC) := by { rw [← HZ7.out.1]; exact (HEB9.out.keep hb10).2.1 3 }; have z4 : w10.cell? ⟨ge, 4, none⟩ = some (.int .i64 NS) := by { rw [← HZ7.out.2]; exact (HEB9.out.keep hb10).2.1 4 }; have z9 : w10.cell? ⟨gp, 9, none⟩ = some (.slice v.CA cn v.cc) := by { rw [← HCN.out, ← HU.out]; exact (HP9.out.keep hb10).2.1 9 })
  go_ret
  exact ⟨rfl, below_then HB9.out hb10⟩
end Go.Proofs.YtgdccmmcjicgkaaDoor
end
section
set_option maxRecDepth 100000
namespace Go.Proofs.YtgdccmmcjicgkaaDoor
open Go.Joins Go.ChangeShapes Go.WideShapes Go.RowKit Go.Deep
theorem gForms : Tryd.prog.globalNamed "dspcompiler/processor.forms" = some 0 := by kernel_rfl
theorem tForms : (Tryd.prog.globals[0]?).map (·.type) = some 134 := by kernel_rfl
theorem trod_form {H : Type} {enc : TypeId × Value → H} {w : World} {base fuel : Nat} {sp : Nat → Bool} {hd : Bool} {cs : List Value} {y : DataW H × List MemPlace}
    (hf : DataW.trod enc Tryd.prog w base sp hd fuel 133 cs = some y) :
    ∃ (s : ByteArray) (a b c : Int), cs = [.string s, .int .i64 a, .int .i64 b, .int .i64 c] ∧ y.1 = .agg [.lit (.string s.data.toList), .agg [.lit (.int .i64 a), .lit (.int .i64 b), .lit (.int .i64 c)]] := by
  obtain ⟨y0, y1, n, rfl, hl, h0, h1⟩ := trod_struct2 Tryd.underlying133 hf
  have kf : Tryd.prog.cellsOf 133 = 4 := by kernel_rfl
  have ks : Tryd.prog.cellsOf 9 = 1 := by kernel_rfl
  have ka : Tryd.prog.cellsOf 131 = 3 := by kernel_rfl
  have ki : Tryd.prog.cellsOf 3 = 1 := by kernel_rfl
  rw [kf] at hl
  match cs, hl with
  | [v0, v1, v2, v3], _ =>
    simp [ks, ka] at h0 h1
    obtain ⟨s, e0, f0, -⟩ := DataW.trod_string Tryd.underlying9 h0
    obtain ⟨xs, m, -, rfl, -, hlen, hel⟩ := DataW.trod_array Tryd.underlying131 h1
    have g0 := hel 0 (by decide)
    have g1 := hel 1 (by decide)
    have g2 := hel 2 (by decide)
    obtain ⟨y0, q0⟩ := get_lt hlen (i := 0) (by decide)
    obtain ⟨y1, q1⟩ := get_lt hlen (i := 1) (by decide)
    obtain ⟨y2, q2⟩ := get_lt hlen (i := 2) (by decide)
    rw [q0] at g0
    rw [q1] at g1
    rw [q2] at g2
    simp [ki] at g0 g1 g2
    obtain ⟨a, e1, f1, -⟩ := DataW.trod_int Tryd.underlying3 g0
    obtain ⟨b, e2, f2, -⟩ := DataW.trod_int Tryd.underlying3 g1
    obtain ⟨c, e3, f3, -⟩ := DataW.trod_int Tryd.underlying3 g2
    simp at e0 e1 e2 e3
    subst e0 e1 e2 e3 f0
    refine ⟨s, a, b, c, rfl, ?_⟩
    match xs, hlen, q0, q1, q2 with
    | [z0, z1, z2], _, q0, q1, q2 =>
      simp at q0 q1 q2
      subst q0 q1 q2 f1 f2 f3
      rfl
theorem forms_of_laid {W : World} {d : DataW Unit} (hd : d = .agg [.agg [.lit (.string [104, 97, 108, 116]), .agg [.lit (.int .i64 0), .lit (.int .i64 0), .lit (.int .i64 0)]], .agg [.lit (.string [99, 108, 101, 97, 114]), .agg [.lit (.int .i64 0), .lit (.int .i64 0), .lit (.int .i64 0)]], .agg [.lit (.string [109, 97, 99]), .agg [.lit (.int .i64 1), .lit (.int .i64 0), .lit (.int .i64 5)]], .agg [.lit (.string [109, 97, 99, 109]), .agg [.lit (.int .i64 2), .lit (.int .i64 0), .lit (.int .i64 5)]], .agg [.lit (.string [109, 97, 99, 99]), .agg [.lit (.int .i64 3), .lit (.int .i64 4), .lit (.int .i64 5)]], .agg [.lit (.string [114, 111, 117, 110, 100]), .agg [.lit (.int .i64 1), .lit (.int .i64 0), .lit (.int .i64 0)]], .agg [.lit (.string [108, 111, 97, 100]), .agg [.lit (.int .i64 1), .lit (.int .i64 2), .lit (.int .i64 0)]], .agg [.lit (.string [115, 116, 111, 114, 101]), .agg [.lit (.int .i64 1), .lit (.int .i64 2), .lit (.int .i64 0)]], .agg [.lit (.string [112, 117, 115, 104]), .agg [.lit (.int .i64 3), .lit (.int .i64 1), .lit (.int .i64 0)]], .agg [.lit (.string [105, 110]), .agg [.lit (.int .i64 1), .lit (.int .i64 0), .lit (.int .i64 0)]], .agg [.lit (.string [111, 117, 116]), .agg [.lit (.int .i64 1), .lit (.int .i64 0), .lit (.int .i64 0)]], .agg [.lit (.string [109, 111, 118, 101]), .agg [.lit (.int .i64 1), .lit (.int .i64 1), .lit (.int .i64 0)]]])
    (h : laidMetH Tryd.prog [("dspcompiler/processor.forms", d)] W) :
    FormsAt W ∧ ∀ k, k < 12 → ∃ s : ByteArray, W.cell? ⟨0, k * 4, none⟩ = some (.string s) ∧ s.data.toList = (opWord k).map UInt8.ofNat := by
  rw [MakeChecks.laidMetH_plain _ _ _ (by subst hd; rfl)] at h
  obtain ⟨ps, ⟨g0, t0, cs0, f0, p0, q0, hg0, ht0, hv0, hd0, -⟩, -, -⟩ := h
  obtain rfl := Option.some.inj (gForms.symm.trans hg0)
  obtain rfl := Option.some.inj (tForms.symm.trans ht0)
  have kf : Tryd.prog.cellsOf 133 = 4 := by kernel_rfl
  obtain ⟨xs, m, -, hx, -, hn, hel⟩ := DataW.trod_array Tryd.underlying134 hd0
  have hx1 : DataW.agg (xs.map (·.1)) = d := (congrArg Prod.fst hx).symm
  rw [hd] at hx1
  injection hx1 with hx1
  have key : ∀ k, k < 12 → ∃ (s : ByteArray), W.cell? ⟨0, k * 4, none⟩ = some (.string s) ∧ s.data.toList = (opWord k).map UInt8.ofNat ∧ W.cell? ⟨0, k * 4 + 1, none⟩ = some (.int .i64 (kA k)) ∧ W.cell? ⟨0, k * 4 + 2, none⟩ = some (.int .i64 (kB k)) ∧ W.cell? ⟨0, k * 4 + 3, none⟩ = some (.int .i64 (kC k)) := fun k hk => by
    have hk1 := hel k hk
    obtain ⟨y, hy⟩ := get_lt hn hk
    rw [hy] at hk1
    obtain ⟨s, a, b, c, ecs, ey⟩ := trod_form hk1
    rw [kf] at ecs
    have hc : ∀ j, j < 4 → W.cell? ⟨0, k * 4 + j, none⟩ = [Value.string s, .int .i64 a, .int .i64 b, .int .i64 c][j]? := fun j hj => by
      rw [World.var?_cell hg0 hv0 (k * 4 + j), ← ecs, List.getElem?_take, if_pos hj, List.getElem?_drop]
      simp
    have hyk : (xs.map (·.1))[k]? = some y.1 := by rw [List.getElem?_map, hy]; rfl
    rw [hx1, ey] at hyk
    have hw : ((opWord k).map UInt8.ofNat, kA k, kB k, kC k) = (s.data.toList, a, b, c) := by
      match k, hk with
      | 0, _ | 1, _ | 2, _ | 3, _ | 4, _ | 5, _ | 6, _ | 7, _ | 8, _ | 9, _ | 10, _ | 11, _ =>
        simp at hyk
        obtain ⟨h1, h2, h3, h4⟩ := hyk
        simp [opWord, kA, kB, kC, ← h1, ← h2, ← h3, ← h4]
    simp only [Prod.mk.injEq] at hw
    obtain ⟨w1, w2, w3, w4⟩ := hw
    refine ⟨s, by simpa using hc 0 (by decide), w1.symm, ?_, ?_, ?_⟩
    · rw [w2]; simpa using hc 1 (by decide)
    · rw [w3]; simpa using hc 2 (by decide)
    · rw [w4]; simpa using hc 3 (by decide)
  refine ⟨⟨?_, fun k hk => (key k hk).choose_spec.2.2⟩, fun k hk => ⟨_, (key k hk).choose_spec.1, (key k hk).choose_spec.2.1⟩⟩
  obtain ⟨s, hs, -⟩ := key 0 (by decide)
  exact Nat.lt_of_not_le fun hle => by
    have : W.heap[0]? = none := Array.getElem?_eq_none hle
    simp [World.cell?, this] at hs
end Go.Proofs.YtgdccmmcjicgkaaDoor
end
