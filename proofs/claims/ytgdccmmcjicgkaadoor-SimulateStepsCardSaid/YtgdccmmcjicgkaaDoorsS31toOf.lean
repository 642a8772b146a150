/- Several texts in one: S31 S41 Of. -/
import Derived.Test.YtgdccmmcjicgkaaDoorsS22toS14
import Derived.Test.YtgdccmmcjicgkaaDoorsE31toU5
import Derived.Test.YtgdccmmcjicgkaaDoorsS1toE21
import Derived.Test.YtgdccmmcjicgkaaDoorsE15toE23
import Derived.Test.YtgdccmmcjicgkaaDoorsOdtoS26
import Derived.Deep.CutBlock
import Derived.Deep.DeepCutAuto
import Derived.Test.YtgdccmmcjicgkaaDoorsFztoVc
import Derived.Test.YtgdccmmcjicgkaaDoorsE5toE14
import Derived.Test.YtgdccmmcjicgkaaDoorsS34toS39
import Derived.Test.YtgdccmmcjicgkaaDoorsS30toS40
import Derived.Test.YtgdccmmcjicgkaaDoorsS5
import Derived.Test.YtgdccmmcjicgkaaDoorsE1toI0
import Derived.ProofKit
import Derived.LaidMore
import Derived.OpenShut
import Derived.MakeChecks
set_option linter.unusedVariables false
set_option linter.unusedSimpArgs false
section
namespace Go.Proofs.YtgdccmmcjicgkaaDoor
open Go.RowKit
theorem bld_ins3 {ops : Array Oper} {rest : List Oper} {o : Oper} {a : Act} {Q : Exit → Act → World → Prop} {w : World} (i0 i1 i2 : Ins) (hgd : o.guard = none) (x0 x1 x2 : Operand) (ho : o.op = .buildSlice 22 3 #[(0, x0), (1, x1), (2, x2)]) (h0 : a.eval x0 = i0.v) (h1 : a.eval x1 = i1.v) (h2 : a.eval x2 = i2.v)
    (h : wpList Tryd.prog ops Q rest (a.put o.dst (.slice (some ⟨w.heap.size, 0, none⟩) 3 3)) (litI w [i0, i1, i2])) : wpList Tryd.prog ops Q (o :: rest) a w :=
  wp_bldS hgd 22 24 3 _ ho und_ins 4 size_ins (by decide) (by decide) _ rfl (by show builtS Tryd.prog 24 3 [(0, a.eval x0), (1, a.eval x1), (2, a.eval x2)] = _; rw [h0, h1, h2]; kernel_rfl) h
set_option maxRecDepth 100000 in
set_option maxHeartbeats 4000000 in
theorem r39_Same (x y : MacA) (w : World) (hx : MacAt w x) (hy : MacAt w y) (he : x.m = y.m) (h1 : x.m.regs.length ≤ 1000) (h2 : x.m.mem.length ≤ 1000) (h3 : x.m.heads.length ≤ 1000) : Calls Tryd.prog 27 #[.agg x.lst.toArray, .agg y.lst.toArray] w fun e w' => e = .returned (.bool true) ∧ Below w.heap.size w w' := by
  obtain ⟨⟨rs, ms, hs, cy, st⟩, GA, MA, HA, gc, mc, hc⟩ := x
  obtain ⟨m, GB, MB, HB, gd, md, hd⟩ := y
  simp only at he h1 h2 h3
  subst he
  obtain ⟨ga, ma, ha⟩ := hx
  obtain ⟨gb, mb, hb⟩ := hy
  simp only at ga ma ha gb mb hb
  obtain ⟨gn, hgn⟩ : ∃ n, rs.length = n := ⟨_, rfl⟩
  obtain ⟨mn, hmn⟩ : ∃ n, ms.length = n := ⟨_, rfl⟩
  obtain ⟨hn, hhn⟩ : ∃ n, hs.length = n := ⟨_, rfl⟩
  have e1 : MacA.lst ⟨⟨rs, ms, hs, cy, st⟩, GA, MA, HA, gc, mc, hc⟩ = [.slice GA gn gc, .slice MA mn mc, .slice HA hn hc, .int .i64 cy, .int .i64 st] := by
    unfold MacA.lst
    simp only [hgn, hmn, hhn]
  have e2 : MacA.lst ⟨⟨rs, ms, hs, cy, st⟩, GB, MB, HB, gd, md, hd⟩ = [.slice GB gn gd, .slice MB mn md, .slice HB hn hd, .int .i64 cy, .int .i64 st] := by
    unfold MacA.lst
    simp only [hgn, hmn, hhn]
  rw [e1, e2]
  clear e1 e2
  have C1 : Hid (∀ w1, Below w.heap.size w w1 → Calls Tryd.prog 19 #[.slice GA gn gc, .slice GB gn gd] w1 fun e w' => e = .returned (.bool true) ∧ Below w1.heap.size w1 w') := Lib.hid fun w1 h => rf_SameN GA GB rs rs gc gd gn gn w1 hgn hgn (by omega) rfl (ga.grow h) (gb.grow h)
  have C2 : Hid (∀ w1, Below w.heap.size w w1 → Calls Tryd.prog 19 #[.slice MA mn mc, .slice MB mn md] w1 fun e w' => e = .returned (.bool true) ∧ Below w1.heap.size w1 w') := Lib.hid fun w1 h => rf_SameN MA MB ms ms mc md mn mn w1 hmn hmn (by omega) rfl (ma.grow h) (mb.grow h)
  have C3 : Hid (∀ w1, Below w.heap.size w w1 → Calls Tryd.prog 19 #[.slice HA hn hc, .slice HB hn hd] w1 fun e w' => e = .returned (.bool true) ∧ Below w1.heap.size w1 w') := Lib.hid fun w1 h => rf_SameN HA HB hs hs hc hd hn hn w1 hhn hhn (by omega) rfl (ha.grow h) (hb.grow h)
  clear ga ma ha gb mb hb hgn hmn hhn h1 h2 h3
  have d1 : decide (cy = cy) = true := decide_eq_true rfl
  have d2 : decide (st = st) = true := decide_eq_true rfl
  have d3 : (cy == cy) = true := by simp
  have d4 : (st == st) = true := by simp
  go_enter Tryd.func27, Tryd.ntmps27
  go_upto_region 1 with fail
  obtain ⟨bp, br, hb0⟩ := entryMM w [.slice GA gn gc, .slice MA mn mc, .slice HA hn hc, .int .i64 cy, .int .i64 st] [.slice GB gn gd, .slice MB mn md, .slice HB hn hd, .int .i64 cy, .int .i64 st] _ rfl
  change Code.wp _ _ _ _ ((w.alloc (.cells [.slice GA gn gc, .slice MA mn mc, .slice HA hn hc, .int .i64 cy, .int .i64 st].toArray 46)).alloc (.cells [.slice GB gn gd, .slice MB mn md, .slice HB hn hd, .int .i64 cy, .int .i64 st].toArray 46))
  generalize ((w.alloc (.cells [.slice GA gn gc, .slice MA mn mc, .slice HA hn hc, .int .i64 cy, .int .i64 st].toArray 46)).alloc (.cells [.slice GB gn gd, .slice MB mn md, .slice HB hn hd, .int .i64 cy, .int .i64 st].toArray 46)) = W0 at bp br hb0 ⊢
  have HB0 := Lib.hid hb0
  have HX := Lib.hid bp
  have HY := Lib.hid br
  obtain ⟨y0, y1, y2, y3, y4⟩ := bp.c5
  obtain ⟨z0, z1, z2, z3, z4⟩ := br.c5
  clear hb0 bp br
  go_wp2_with (go_at_call 19; (first
    | ((with_reducible refine (C1.out _ HB0.out).mono ?_); rintro e1 w1 ⟨rfl, hb1⟩; have hbb1 := below_then HB0.out hb1; obtain ⟨y0, y1, y2, y3, y4⟩ := (HX.out.keep hb1).c5; obtain ⟨z0, z1, z2, z3, z4⟩ := (HY.out.keep hb1).c5)
    | ((with_reducible refine (C2.out _ hbb1).mono ?_); rintro e1 w2 ⟨rfl, hb2⟩; have hbb2 := below_then hbb1 hb2; have hb12 := below_then hb1 hb2; obtain ⟨y0, y1, y2, y3, y4⟩ := (HX.out.keep hb12).c5; obtain ⟨z0, z1, z2, z3, z4⟩ := (HY.out.keep hb12).c5)
    | ((with_reducible refine (C3.out _ hbb2).mono ?_); rintro e1 w3 ⟨rfl, hb3⟩; have hb13 := below_then hb12 hb3; obtain ⟨y0, y1, y2, y3, y4⟩ := (HX.out.keep hb13).c5; obtain ⟨z0, z1, z2, z3, z4⟩ := (HY.out.keep hb13).c5)))
  go_ret
  exact ⟨rfl, below_then hbb2 hb3⟩
abbrev kn39a : List Ins := [⟨6, 0, 0, 0⟩, ⟨10, 0, 0, 0⟩, ⟨0, 0, 0, 0⟩]
abbrev kn39b : List Ins := [⟨1, 0, 0, 0⟩, ⟨5, 1, 0, 0⟩, ⟨10, 1, 0, 0⟩, ⟨0, 0, 0, 0⟩]
theorem kn39a_time : cycF kn39a = 4 ∧ stlF kn39a = 1 ∧ depE kn39a = 0 := by decide +kernel
theorem kn39b_time : cycF kn39b = 6 ∧ stlF kn39b = 2 ∧ depE kn39b = 0 := by decide +kernel
theorem kn39a_ok : ∀ i ∈ kn39a, i.ok := by unfold Ins.ok I64; decide +kernel
theorem kn39b_ok : ∀ i ∈ kn39b, i.ok := by unfold Ins.ok I64; decide +kernel
set_option maxRecDepth 100000 in
set_option maxHeartbeats 4000000 in
theorem known39 (w : World) (hf : FormsAt w) : Calls Tryd.prog 20 #[] w fun e w' => e = .returned (.bool true) ∧ Below w.heap.size w w' := by
  have HF := Lib.hid hf
  have C1 : Hid (∀ w1 A c, Below w.heap.size w w1 → InsAt w1 A kn39a → Calls Tryd.prog 30 #[.slice A 3 c] w1 fun e w' => e = .returned (.tuple #[.int .i64 4, .int .i64 1, .int .i64 0]) ∧ Below w1.heap.size w1 w') := Lib.hid fun w1 A c hb hi => by
    have := sm_Time A 3 c kn39a w1 (HF.out.grow hb) hi rfl (by decide)
    unfold RetTime at this
    rw [kn39a_time.1, kn39a_time.2.1, kn39a_time.2.2] at this
    exact this
  have C2 : Hid (∀ w1 A c, Below w.heap.size w w1 → InsAt w1 A kn39b → Calls Tryd.prog 30 #[.slice A 4 c] w1 fun e w' => e = .returned (.tuple #[.int .i64 6, .int .i64 2, .int .i64 0]) ∧ Below w1.heap.size w1 w') := Lib.hid fun w1 A c hb hi => by
    have := sm_Time A 4 c kn39b w1 (HF.out.grow hb) hi rfl (by decide)
    unfold RetTime at this
    rw [kn39b_time.1, kn39b_time.2.1, kn39b_time.2.2] at this
    exact this
  clear hf
  go_enter Tryd.func20, Tryd.ntmps20
  go_upto_region 2 with (first
    | ((with_reducible show wpList _ _ _ (Oper.mk (some 11) _ _ _ _ _ :: _) _ _); refine bld_ins3 ⟨6, 0, 0, 0⟩ ⟨10, 0, 0, 0⟩ ⟨0, 0, 0, 0⟩ rfl _ _ _ rfl rfl rfl rfl ?_)
    | (go_at_call 30; (with_reducible refine (C1.out _ _ _ (litI_below w kn39a) (InsAt.lit kn39a_ok)).mono ?_); rintro e1 w1 ⟨rfl, hb1⟩))
  have HB2 := Lib.hid (below_then (litI_below w kn39a) hb1)
  clear hb1
  go_upto_region 3 with (first
    | ((with_reducible show wpList _ _ _ (Oper.mk (some 21) _ _ _ _ _ :: _) _ _); refine bld_ins4 ⟨1, 0, 0, 0⟩ ⟨5, 1, 0, 0⟩ ⟨10, 1, 0, 0⟩ ⟨0, 0, 0, 0⟩ rfl _ _ _ _ rfl rfl rfl rfl rfl ?_)
    | (go_at_call 30; (with_reducible refine (C2.out _ _ _ (below_then HB2.out (litI_below w1 kn39b)) (InsAt.lit kn39b_ok)).mono ?_); rintro e2 w2 ⟨rfl, hb3⟩))
  have HB4 := Lib.hid (below_then HB2.out (below_then (litI_below w1 kn39b) hb3))
  clear hb3
  go_wp2_with fail
  go_ret
  exact ⟨rfl, HB4.out⟩
end Go.Proofs.YtgdccmmcjicgkaaDoor
end
section
namespace Go.Proofs.YtgdccmmcjicgkaaDoor
open Go.RowKit
theorem qld_mac {ops : Array Oper} {rest : List Oper} {o : Oper} {a : Act} {Q : Act → Prop} {W : World} {g : Nat} {L : List Value} (hb : Box W g L) (hL : L.length = 5) (hw : Region.wanted o (yielded ops a.tmps) = true) (x : Operand) (ho : o.op = .load 46 x) (hx : a.eval x = .pointer (some ⟨g, 0, none⟩)) (h : wpQuiet Tryd.prog ops (fun w' => ∃ n : Ext W, w' = n.to) Q rest (a.put o.dst (.agg L.toArray))) : wpQuiet Tryd.prog ops (fun w' => ∃ n : Ext W, w' = n.to) Q (o :: rest) a := by
  obtain ⟨d, h1, h2⟩ := row_mac
  refine qld_mid hw _ x ho g 0 hx L d (fun w hw' => ?_) h1 h2 (by rw [hL]; exact size_mac) h
  obtain ⟨n, rfl⟩ := hw'
  intro j v hj
  rw [Nat.zero_add]
  exact hb.ext hj n
theorem smpE_zero {d : PrgD} {m : Mac} {y : Int} (h : smpE d m y = 0) : macB d m = true ∧ fitsW d.d0 d.d1 d.d2 d.d3 y = true := by
  unfold smpE at h
  split at h
  · split at h
    · split at h
      · rename_i h1 h2; exact ⟨h1, h2⟩
      · cases h
    · cases h
  · cases h
set_option maxRecDepth 100000 in
set_option maxHeartbeats 16000000 in
theorem law_SimulateSteps (u : PrgA) (x : MacA) (y r k : Int) (w : World) (hf : FormsAt w) (hu : PrgAt w u ∧ u.d.rg.length ≤ 9223372036854775807 ∧ u.d.code.length ≤ 9223372036854775807) (hx : MacAt w x ∧ MacLen x.m ∧ I64 x.m.cyc ∧ I64 x.m.stl) (hy : I64 y) (hr : I64 r) (hk : I64 k) :
    Calls Tryd.prog 8 #[u.v, x.v, .int .i64 y, .int .i64 r, .int .i64 k] w fun e w' => e = .returned (.bool true) ∧ Below w.heap.size w w' := by
  obtain ⟨hp, hr9, hc9⟩ := hu
  obtain ⟨hx, hm9, -, -⟩ := hx
  obtain ⟨rn, hrn⟩ : ∃ n, u.d.rg.length = n := ⟨_, rfl⟩
  obtain ⟨cn, hcn⟩ : ∃ n, u.d.code.length = n := ⟨_, rfl⟩
  obtain ⟨gn, hgn⟩ : ∃ n, x.m.regs.length = n := ⟨_, rfl⟩
  obtain ⟨mn, hmn⟩ : ∃ n, x.m.mem.length = n := ⟨_, rfl⟩
  obtain ⟨hn, hhn⟩ : ∃ n, x.m.heads.length = n := ⟨_, rfl⟩
  have HL8 := Lib.hid (lst_eight hrn)
  have HL9 := Lib.hid (lst_nine hcn)
  have HGN := Lib.hid hgn
  have HMN := Lib.hid hmn
  have HHN := Lib.hid hhn
  have CK : Hid (∀ w1, Below w.heap.size w w1 → Calls Tryd.prog 20 #[] w1 fun e w' => e = .returned (.bool true) ∧ Below w1.heap.size w1 w') := Lib.hid fun w1 hb => known39 w1 (hf.grow hb)
  obtain ⟨R, hR⟩ : ∃ b, macB u.d x.m = b := ⟨_, rfl⟩
  have CV1 : Hid (∀ w1, Below w.heap.size w w1 → Calls Tryd.prog 39 #[.agg u.lst.toArray, .agg x.lst.toArray] w1 fun e w' => e = .returned (.bool R) ∧ Below w1.heap.size w1 w') := Lib.hid fun w1 hb => sm_Valid u x w1 (hf.grow hb) (hp.grow hb) (hx.grow hb) hr9 hc9 hm9 hR
  have CV2 : Hid (∀ w1, Below w.heap.size w w1 → Calls Tryd.prog 40 #[.agg u.lst.toArray, .agg x.lst.toArray] w1 fun e w' => e = .returned (.bool R) ∧ Below w1.heap.size w1 w') := Lib.hid fun w1 hb => r39_Valid u x w1 (hp.grow hb) (hx.grow hb) hr9 hc9 hm9 hR
  obtain ⟨SE, hSE⟩ : ∃ e, startE u.d = e := ⟨_, rfl⟩
  obtain ⟨SM, hSM⟩ : ∃ e, startM u.d = e := ⟨_, rfl⟩
  have CS1 : Hid (∀ w1, Below w.heap.size w w1 → Calls Tryd.prog 32 #[.agg u.lst.toArray] w1 fun e w' => ∃ z : MacA, z.m = SM ∧ e = .returned (.tuple #[.agg z.lst.toArray, .int .i64 SE]) ∧ MacAt w' z ∧ Below w1.heap.size w1 w') := Lib.hid fun w1 hb => by
    have h := sm_Start u w1 (hf.grow hb) (hp.grow hb) hr9 hc9
    unfold RetMacE at h
    rw [hSE, hSM] at h
    exact h
  have CS2 : Hid (∀ w1, Below w.heap.size w w1 → Calls Tryd.prog 36 #[.agg u.lst.toArray] w1 fun e w' => ∃ z : MacA, z.m = SM ∧ e = .returned (.tuple #[.agg z.lst.toArray, .int .i64 SE]) ∧ MacAt w' z ∧ Below w1.heap.size w1 w') := Lib.hid fun w1 hb => by
    have h := r39_Start u w1 (hp.grow hb) hr9 hc9
    unfold RetMacE at h
    rw [hSE, hSM] at h
    exact h
  obtain ⟨WV, hWV⟩ : ∃ e, wrdV u.d x.m r k = e := ⟨_, rfl⟩
  obtain ⟨WE, hWE⟩ : ∃ e, wrdE u.d x.m r k = e := ⟨_, rfl⟩
  have CW1 : Hid (∀ w1, Below w.heap.size w w1 → Calls Tryd.prog 35 #[.agg u.lst.toArray, .agg x.lst.toArray, .int .i64 r, .int .i64 k] w1 fun e w' => e = .returned (.tuple #[.int .i64 WV, .int .i64 WE]) ∧ Below w1.heap.size w1 w') := Lib.hid fun w1 hb => by
    rw [← hWV, ← hWE]
    exact sm_Word u x r k w1 (hf.grow hb) (hp.grow hb) (hx.grow hb) hr9 hc9 hm9
  have CW2 : Hid (∀ w1, Below w.heap.size w w1 → Calls Tryd.prog 38 #[.agg u.lst.toArray, .agg x.lst.toArray, .int .i64 r, .int .i64 k] w1 fun e w' => e = .returned (.tuple #[.int .i64 WV, .int .i64 WE]) ∧ Below w1.heap.size w1 w') := Lib.hid fun w1 hb => by
    rw [← hWV, ← hWE]
    exact r39_Word u x r k w1 (hp.grow hb) (hx.grow hb) hr9 hc9 hm9
  -- both samples
  obtain ⟨ME, yo, ov, E, hlen, hsm1, hsm2⟩ : ∃ (ME : Mac) (yo : Int) (ov : Bool) (E : Int), (ME.regs.length ≤ 1000 ∧ ME.mem.length ≤ 1000 ∧ ME.heads.length ≤ u.d.rg.length) ∧
      (∀ w1, Below w.heap.size w w1 → Calls Tryd.prog 28 #[.agg u.lst.toArray, .agg x.lst.toArray, .int .i64 y] w1 fun e w' => ∃ z : MacA, z.m = ME ∧ e = .returned (.tuple #[.agg z.lst.toArray, .int .i64 yo, .bool ov, .int .i64 E]) ∧ MacAt w' z ∧ Below w1.heap.size w1 w') ∧
      (∀ w1, Below w.heap.size w w1 → Calls Tryd.prog 37 #[.agg u.lst.toArray, .agg x.lst.toArray, .int .i64 y] w1 fun e w' => ∃ z : MacA, z.m = ME ∧ e = .returned (.tuple #[.agg z.lst.toArray, .int .i64 yo, .bool ov, .int .i64 E]) ∧ MacAt w' z ∧ Below w1.heap.size w1 w') := by
    by_cases he : smpE u.d x.m y = 0
    · obtain ⟨hm, hyf⟩ := smpE_zero he
      obtain ⟨hv, hok, -, -⟩ := macB_parts hm
      have hnk := macN_ok hv (m := x.m) (x := y) hyf hok
      refine ⟨macN u.d y x.m, (sampF u.d y x.m u.d.code).out, (sampF u.d y x.m u.d.code).ov, 0, ⟨by rw [hnk.rl]; omega, by rw [hnk.ml]; omega, by rw [hnk.hl]; exact Nat.le_refl _⟩, fun w1 hb => ?_, fun w1 hb => ?_⟩
      · refine (sm_Sample u x y w1 (hf.grow hb) (hp.grow hb) (hx.grow hb) hm hyf hy).mono ?_
        rintro e w' ⟨z, h1, h2, h3, -, h5⟩
        exact ⟨z, h1, h2, h3, h5⟩
      · refine (r39_Sample u x y w1 (hp.grow hb) (hx.grow hb) hm hyf).mono ?_
        rintro e w' ⟨z, h1, h2, h3, -, h5⟩
        exact ⟨z, h1, h2, h3, h5⟩
    · refine ⟨macZ, 0, false, smpE u.d x.m y, ⟨Nat.zero_le _, Nat.zero_le _, Nat.zero_le _⟩, fun w1 hb => ?_, fun w1 hb => ?_⟩
      · refine (sm_SampleE u x y w1 (hf.grow hb) (hp.grow hb) (hx.grow hb) hr9 hc9 hm9 hy he).mono ?_
        rintro e w' ⟨h1, h2⟩
        exact ⟨⟨macZ, none, none, none, 0, 0, 0⟩, rfl, h1, ⟨Ints.nil, Ints.nil, Ints.nil⟩, h2⟩
      · refine (r39_SampleE u x y w1 (hp.grow hb) (hx.grow hb) hr9 hc9 hm9 he).mono ?_
        rintro e w' ⟨h1, h2⟩
        exact ⟨⟨macZ, none, none, none, 0, 0, 0⟩, rfl, h1, ⟨Ints.nil, Ints.nil, Ints.nil⟩, h2⟩
  have C1 := Lib.hid hsm1
  have C2 := Lib.hid hsm2
  have hst : SM.regs.length ≤ 1000 ∧ SM.mem.length ≤ 1000 ∧ SM.heads.length ≤ u.d.rg.length := by
    rw [← hSM]
    unfold startM
    split
    · rename_i hv
      have hok := mac0_ok hv
      exact ⟨by rw [hok.rl]; omega, by rw [hok.ml]; omega, by rw [hok.hl]; exact Nat.le_refl _⟩
    · exact ⟨Nat.zero_le _, Nat.zero_le _, Nat.zero_le _⟩
  rw [hrn] at hlen hst
  have ev : u.v = .agg u.lst.toArray := rfl
  have em : x.v = .agg x.lst.toArray := rfl
  rw [ev, em]
  clear ev em hf hp hx hr9 hc9 hm9 hR hSE hSM hWV hWE hsm1 hsm2 hrn hcn hgn hmn hhn hy hr hk
  go_enter Tryd.func8, Tryd.ntmps8
  go_upto_region 1 with fail
  obtain ⟨bp, bm, hb0⟩ := entryPM w u.lst x.lst _ rfl
  change Code.wp _ _ _ _ ((w.alloc (.cells u.lst.toArray 43)).alloc (.cells x.lst.toArray 46))
  generalize ((w.alloc (.cells u.lst.toArray 43)).alloc (.cells x.lst.toArray 46)) = W0 at bp bm hb0 ⊢
  have HB0 := Lib.hid hb0
  have HP0 := Lib.hid bp
  have HM0 := Lib.hid bm
  have x8 : W0.cell? ⟨w.heap.size, 8, none⟩ = some (.slice u.RA rn u.rc) := (bp.2.1 8).trans HL8.out
  have x9 : W0.cell? ⟨w.heap.size, 9, none⟩ = some (.slice u.CA cn u.cc) := (bp.2.1 9).trans HL9.out
  have y0 : W0.cell? ⟨w.heap.size + 1, 0, none⟩ = some (.slice x.GA gn x.gc) := by rw [← HGN.out]; exact bm.2.1 0
  have y1 : W0.cell? ⟨w.heap.size + 1, 1, none⟩ = some (.slice x.MA mn x.mc) := by rw [← HMN.out]; exact bm.2.1 1
  have y2 : W0.cell? ⟨w.heap.size + 1, 2, none⟩ = some (.slice x.HA hn x.hc) := by rw [← HHN.out]; exact bm.2.1 2
  clear hb0 bp bm
  by_cases h_rn : (10 : Int) < (rn : Int)
  · go_wp2_with (go_at_call 20; (with_reducible refine (CK.out _ HB0.out).mono ?_); rintro e1 w1 ⟨rfl, hb1⟩)
    go_ret
    exact ⟨rfl, below_then HB0.out hb1⟩
  by_cases h_cn : (60 : Int) < (cn : Int)
  · go_wp2_with (go_at_call 20; (with_reducible refine (CK.out _ HB0.out).mono ?_); rintro e1 w1 ⟨rfl, hb1⟩)
    go_ret
    exact ⟨rfl, below_then HB0.out hb1⟩
  by_cases h_gn : (20 : Int) < (gn : Int)
  · go_wp2_with (go_at_call 20; (with_reducible refine (CK.out _ HB0.out).mono ?_); rintro e1 w1 ⟨rfl, hb1⟩)
    go_ret
    exact ⟨rfl, below_then HB0.out hb1⟩
  by_cases h_mn : (200 : Int) < (mn : Int)
  · go_wp2_with (go_at_call 20; (with_reducible refine (CK.out _ HB0.out).mono ?_); rintro e1 w1 ⟨rfl, hb1⟩)
    go_ret
    exact ⟨rfl, below_then HB0.out hb1⟩
  by_cases h_hn : (20 : Int) < (hn : Int)
  · go_wp2_with (go_at_call 20; (with_reducible refine (CK.out _ HB0.out).mono ?_); rintro e1 w1 ⟨rfl, hb1⟩)
    go_ret
    exact ⟨rfl, below_then HB0.out hb1⟩
  have hrn10 : rn ≤ 10 := by omega
  go_upto_region 3 with fail
  clear x8 x9 y0 y1 y2 h_rn h_cn h_gn h_mn h_hn
  generalize w.heap.size + 1 = gm at HM0 ⊢
  obtain ⟨gp, hgp⟩ : ∃ g, w.heap.size = g := ⟨_, rfl⟩
  rw [hgp] at HP0 ⊢
  clear hgp
  have HBA0 := HB0
  go_upto_region 4 with (first
    | ((with_reducible show wpList _ _ _ (Oper.mk _ (.load 43 _) _ _ _ _ :: _) _ _); refine ld_prg HP0.out (lst_ten u) rfl _ rfl rfl ?_)
    | ((with_reducible show wpList _ _ _ (Oper.mk _ (.load 46 _) _ _ _ _ :: _) _ _); refine ld_mac HM0.out rfl rfl _ rfl rfl ?_)
    | (go_at_call 32; (with_reducible refine (CS1.out _ HB0.out).mono ?_); rintro e3 w3 ⟨z3, hz3, rfl, ha3, hb3⟩)
    | ((with_reducible show wpList _ _ _ (Oper.mk _ (.store 46 _ _) _ _ _ _ :: _) _ _); refine st_mac (L := z3.lst) (Box.new (w := w3) (t := 46) (vs := zeros5.toArray) rfl) rfl rfl rfl rfl _ _ rfl rfl rfl ?_; intro W3 hbx3 hg3))
  have hbp := put_facts ((Below.refl w3.heap.size w3).alloc (Nat.le_refl _) (.cells zeros5.toArray 46)) (Nat.le_refl _) hg3
  have hbb := below_then hb3 hbp
  have HB3 := Lib.hid (below_then HB0.out hbb)
  have HP3 := Lib.hid (HP0.out.keep hbb)
  have HM3 := Lib.hid (HM0.out.keep hbb)
  have HX3_3 := Lib.hid hbx3
  have HA3_3 := Lib.hid (ha3.grow hbp)
  have HZ3 := Lib.hid hz3
  clear hb3 ha3 hz3 hbx3 hg3 hbp hbb HP0 HM0 CS1
  generalize w3.heap.size = g3 at HX3_3 ⊢
  go_upto_region 5 with (first
    | ((with_reducible show wpList _ _ _ (Oper.mk _ (.load 43 _) _ _ _ _ :: _) _ _); refine ld_prg HP3.out (lst_ten u) rfl _ rfl rfl ?_)
    | ((with_reducible show wpList _ _ _ (Oper.mk _ (.load 46 _) _ _ _ _ :: _) _ _); refine ld_mac HM3.out rfl rfl _ rfl rfl ?_)
    | (go_at_call 36; (with_reducible refine (CS2.out _ HB3.out).mono ?_); rintro e4 w4 ⟨z4, hz4, rfl, ha4, hb4⟩)
    | ((with_reducible show wpList _ _ _ (Oper.mk _ (.store 46 _ _) _ _ _ _ :: _) _ _); refine st_mac (L := z4.lst) (Box.new (w := w4) (t := 46) (vs := zeros5.toArray) rfl) rfl rfl rfl rfl _ _ rfl rfl rfl ?_; intro W4 hbx4 hg4))
  have hbp := put_facts ((Below.refl w4.heap.size w4).alloc (Nat.le_refl _) (.cells zeros5.toArray 46)) (Nat.le_refl _) hg4
  have hbb := below_then hb4 hbp
  have HB4 := Lib.hid (below_then HB3.out hbb)
  have HP4 := Lib.hid (HP3.out.keep hbb)
  have HM4 := Lib.hid (HM3.out.keep hbb)
  have HX3_4 := Lib.hid (HX3_3.out.keep hbb)
  have HA3_4 := Lib.hid (HA3_3.out.grow hbb)
  have HX4_4 := Lib.hid hbx4
  have HA4_4 := Lib.hid (ha4.grow hbp)
  have HZ4 := Lib.hid hz4
  clear hb4 ha4 hz4 hbx4 hg4 hbp hbb HB3 HP3 HM3 HX3_3 HA3_3 CS2
  generalize w4.heap.size = g4 at HX4_4 ⊢
  go_upto_region 6 with (first
    | ((with_reducible show wpList _ _ _ (Oper.mk _ (.load 43 _) _ _ _ _ :: _) _ _); refine ld_prg HP4.out (lst_ten u) rfl _ rfl rfl ?_)
    | ((with_reducible show wpList _ _ _ (Oper.mk _ (.load 46 _) _ _ _ _ :: _) _ _); refine ld_mac HM4.out rfl rfl _ rfl rfl ?_)
    | (go_at_call 28; (with_reducible refine (C1.out _ HB4.out).mono ?_); rintro e5 w5 ⟨z5, hz5, rfl, ha5, hb5⟩)
    | ((with_reducible show wpList _ _ _ (Oper.mk _ (.store 46 _ _) _ _ _ _ :: _) _ _); refine st_mac (L := z5.lst) (Box.new (w := w5) (t := 46) (vs := zeros5.toArray) rfl) rfl rfl rfl rfl _ _ rfl rfl rfl ?_; intro W5 hbx5 hg5))
  have hbp := put_facts ((Below.refl w5.heap.size w5).alloc (Nat.le_refl _) (.cells zeros5.toArray 46)) (Nat.le_refl _) hg5
  have hbb := below_then hb5 hbp
  have HB5 := Lib.hid (below_then HB4.out hbb)
  have HP5 := Lib.hid (HP4.out.keep hbb)
  have HM5 := Lib.hid (HM4.out.keep hbb)
  have HX3_5 := Lib.hid (HX3_4.out.keep hbb)
  have HA3_5 := Lib.hid (HA3_4.out.grow hbb)
  have HX4_5 := Lib.hid (HX4_4.out.keep hbb)
  have HA4_5 := Lib.hid (HA4_4.out.grow hbb)
  have HX5_5 := Lib.hid hbx5
  have HA5_5 := Lib.hid (ha5.grow hbp)
  have HZ5 := Lib.hid hz5
  clear hb5 ha5 hz5 hbx5 hg5 hbp hbb HB4 HP4 HM4 HX3_4 HA3_4 HX4_4 HA4_4 C1
  generalize w5.heap.size = g5 at HX5_5 ⊢
  go_upto_region 7 with (first
    | ((with_reducible show wpList _ _ _ (Oper.mk _ (.load 43 _) _ _ _ _ :: _) _ _); refine ld_prg HP5.out (lst_ten u) rfl _ rfl rfl ?_)
    | ((with_reducible show wpList _ _ _ (Oper.mk _ (.load 46 _) _ _ _ _ :: _) _ _); refine ld_mac HM5.out rfl rfl _ rfl rfl ?_)
    | (go_at_call 37; (with_reducible refine (C2.out _ HB5.out).mono ?_); rintro e6 w6 ⟨z6, hz6, rfl, ha6, hb6⟩)
    | ((with_reducible show wpList _ _ _ (Oper.mk _ (.store 46 _ _) _ _ _ _ :: _) _ _); refine st_mac (L := z6.lst) (Box.new (w := w6) (t := 46) (vs := zeros5.toArray) rfl) rfl rfl rfl rfl _ _ rfl rfl rfl ?_; intro W6 hbx6 hg6))
  have hbp := put_facts ((Below.refl w6.heap.size w6).alloc (Nat.le_refl _) (.cells zeros5.toArray 46)) (Nat.le_refl _) hg6
  have hbb := below_then hb6 hbp
  have HB6 := Lib.hid (below_then HB5.out hbb)
  have HP6 := Lib.hid (HP5.out.keep hbb)
  have HM6 := Lib.hid (HM5.out.keep hbb)
  have HX3_6 := Lib.hid (HX3_5.out.keep hbb)
  have HA3_6 := Lib.hid (HA3_5.out.grow hbb)
  have HX4_6 := Lib.hid (HX4_5.out.keep hbb)
  have HA4_6 := Lib.hid (HA4_5.out.grow hbb)
  have HX5_6 := Lib.hid (HX5_5.out.keep hbb)
  have HA5_6 := Lib.hid (HA5_5.out.grow hbb)
  have HX6_6 := Lib.hid hbx6
  have HA6_6 := Lib.hid (ha6.grow hbp)
  have HZ6 := Lib.hid hz6
  clear hb6 ha6 hz6 hbx6 hg6 hbp hbb HB5 HP5 HM5 HX3_5 HA3_5 HX4_5 HA4_5 HX5_5 HA5_5 C2
  generalize w6.heap.size = g6 at HX6_6 ⊢
  go_upto_region 8 with (first
    | ((with_reducible show wpList _ _ _ (Oper.mk _ (.load 43 _) _ _ _ _ :: _) _ _); refine ld_prg HP6.out (lst_ten u) rfl _ rfl rfl ?_)
    | ((with_reducible show wpList _ _ _ (Oper.mk _ (.load 46 _) _ _ _ _ :: _) _ _); refine ld_mac HM6.out rfl rfl _ rfl rfl ?_)
    | (go_at_call 35; (with_reducible refine (CW1.out _ HB6.out).mono ?_); rintro e7 w7 ⟨rfl, hbb⟩))
  have HB7 := Lib.hid (below_then HB6.out hbb)
  have HP7 := Lib.hid (HP6.out.keep hbb)
  have HM7 := Lib.hid (HM6.out.keep hbb)
  have HX3_7 := Lib.hid (HX3_6.out.keep hbb)
  have HA3_7 := Lib.hid (HA3_6.out.grow hbb)
  have HX4_7 := Lib.hid (HX4_6.out.keep hbb)
  have HA4_7 := Lib.hid (HA4_6.out.grow hbb)
  have HX5_7 := Lib.hid (HX5_6.out.keep hbb)
  have HA5_7 := Lib.hid (HA5_6.out.grow hbb)
  have HX6_7 := Lib.hid (HX6_6.out.keep hbb)
  have HA6_7 := Lib.hid (HA6_6.out.grow hbb)
  clear hbb HB6 HP6 HM6 HX3_6 HA3_6 HX4_6 HA4_6 HX5_6 HA5_6 HX6_6 HA6_6 CW1
  go_upto_region 9 with (first
    | ((with_reducible show wpList _ _ _ (Oper.mk _ (.load 43 _) _ _ _ _ :: _) _ _); refine ld_prg HP7.out (lst_ten u) rfl _ rfl rfl ?_)
    | ((with_reducible show wpList _ _ _ (Oper.mk _ (.load 46 _) _ _ _ _ :: _) _ _); refine ld_mac HM7.out rfl rfl _ rfl rfl ?_)
    | (go_at_call 38; (with_reducible refine (CW2.out _ HB7.out).mono ?_); rintro e8 w8 ⟨rfl, hbb⟩))
  have HB8 := Lib.hid (below_then HB7.out hbb)
  have HP8 := Lib.hid (HP7.out.keep hbb)
  have HM8 := Lib.hid (HM7.out.keep hbb)
  have HX3_8 := Lib.hid (HX3_7.out.keep hbb)
  have HA3_8 := Lib.hid (HA3_7.out.grow hbb)
  have HX4_8 := Lib.hid (HX4_7.out.keep hbb)
  have HA4_8 := Lib.hid (HA4_7.out.grow hbb)
  have HX5_8 := Lib.hid (HX5_7.out.keep hbb)
  have HA5_8 := Lib.hid (HA5_7.out.grow hbb)
  have HX6_8 := Lib.hid (HX6_7.out.keep hbb)
  have HA6_8 := Lib.hid (HA6_7.out.grow hbb)
  clear hbb HB7 HP7 HM7 HX3_7 HA3_7 HX4_7 HA4_7 HX5_7 HA5_7 HX6_7 HA6_7 CW2
  have CK8 : Hid (∀ w1, Below w8.heap.size w8 w1 → Calls Tryd.prog 20 #[] w1 fun e w' => e = .returned (.bool true) ∧ Below w1.heap.size w1 w') := Lib.hid fun w1 hb => CK.out w1 (below_then HB8.out hb)
  have CV3 : Hid (∀ w1, Below w8.heap.size w8 w1 → Calls Tryd.prog 39 #[.agg u.lst.toArray, .agg x.lst.toArray] w1 fun e w' => e = .returned (.bool R) ∧ Below w1.heap.size w1 w') := Lib.hid fun w1 hb => CV1.out w1 (below_then HB8.out hb)
  have CV4 : Hid (∀ w1, Below w8.heap.size w8 w1 → Calls Tryd.prog 40 #[.agg u.lst.toArray, .agg x.lst.toArray] w1 fun e w' => e = .returned (.bool R) ∧ Below w1.heap.size w1 w') := Lib.hid fun w1 hb => CV2.out w1 (below_then HB8.out hb)
  have CSa : Hid (∀ w1, Below w8.heap.size w8 w1 → Calls Tryd.prog 27 #[.agg z3.lst.toArray, .agg z4.lst.toArray] w1 fun e w' => e = .returned (.bool true) ∧ Below w1.heap.size w1 w') := Lib.hid fun w1 hb => r39_Same z3 z4 w1 (HA3_8.out.grow hb) (HA4_8.out.grow hb) (HZ3.out.trans HZ4.out.symm) (by rw [HZ3.out]; exact hst.1) (by rw [HZ3.out]; exact hst.2.1) (by rw [HZ3.out]; exact Nat.le_trans hst.2.2 (by omega))
  have CSb : Hid (∀ w1, Below w8.heap.size w8 w1 → Calls Tryd.prog 27 #[.agg z5.lst.toArray, .agg z6.lst.toArray] w1 fun e w' => e = .returned (.bool true) ∧ Below w1.heap.size w1 w') := Lib.hid fun w1 hb => r39_Same z5 z6 w1 (HA5_8.out.grow hb) (HA6_8.out.grow hb) (HZ5.out.trans HZ6.out.symm) (by rw [HZ5.out]; exact hlen.1) (by rw [HZ5.out]; exact hlen.2.1) (by rw [HZ5.out]; exact Nat.le_trans hlen.2.2 (by omega))
  clear CK CV1 CV2 HA3_8 HA4_8 HA5_8 HA6_8 HZ3 HZ4 HZ5 HZ6 hst hlen
  have d_SE : decide (SE = SE) = true := decide_eq_true rfl
  have b_SE : (SE == SE) = true := by simp
  have d_E : decide (E = E) = true := decide_eq_true rfl
  have b_E : (E == E) = true := by simp
  have d_yo : decide (yo = yo) = true := decide_eq_true rfl
  have b_yo : (yo == yo) = true := by simp
  have d_WV : decide (WV = WV) = true := decide_eq_true rfl
  have b_WV : (WV == WV) = true := by simp
  have d_WE : decide (WE = WE) = true := decide_eq_true rfl
  have b_WE : (WE == WE) = true := by simp
  have d_R : decide (R = R) = true := decide_eq_true rfl
  have b_R : (R == R) = true := by simp
  have d_ov : decide (ov = ov) = true := decide_eq_true rfl
  have b_ov : (ov == ov) = true := by simp
  refine wp_region_ext (by kernel_rfl) (by kernel_rfl) ?_
  repeat (first
    | ((with_reducible show wpQuiet _ _ _ _ (Oper.mk (some 107) (.load 46 _) _ _ _ _ :: _) _); refine qld_mac HX3_8.out rfl rfl (Operand.tmp 11) rfl rfl ?_; simp [Act.put])
    | ((with_reducible show wpQuiet _ _ _ _ (Oper.mk (some 108) (.load 46 _) _ _ _ _ :: _) _); refine qld_mac HX4_8.out rfl rfl (Operand.tmp 13) rfl rfl ?_; simp [Act.put])
    | ((with_reducible show wpQuiet _ _ _ _ (Oper.mk (some 112) (.load 43 _) _ _ _ _ :: _) _); refine qld_prg HP8.out rfl rfl (Operand.tmp 5) rfl rfl ?_; simp [Act.put])
    | ((with_reducible show wpQuiet _ _ _ _ (Oper.mk (some 115) (.load 43 _) _ _ _ _ :: _) _); refine qld_prg HP8.out rfl rfl (Operand.tmp 5) rfl rfl ?_; simp [Act.put])
    | ((with_reducible show wpQuiet _ _ _ _ (Oper.mk (some 113) (.load 46 _) _ _ _ _ :: _) _); refine qld_mac HM8.out rfl rfl (Operand.tmp 6) rfl rfl ?_; simp [Act.put])
    | ((with_reducible show wpQuiet _ _ _ _ (Oper.mk (some 116) (.load 46 _) _ _ _ _ :: _) _); refine qld_mac HM8.out rfl rfl (Operand.tmp 6) rfl rfl ?_; simp [Act.put])
    | ((with_reducible show wpQuiet _ _ _ _ (Oper.mk (some 126) (.load 46 _) _ _ _ _ :: _) _); refine qld_mac HX5_8.out rfl rfl (Operand.tmp 15) rfl rfl ?_; simp [Act.put])
    | ((with_reducible show wpQuiet _ _ _ _ (Oper.mk (some 127) (.load 46 _) _ _ _ _ :: _) _); refine qld_mac HX6_8.out rfl rfl (Operand.tmp 19) rfl rfl ?_; simp [Act.put])
    | (go_big_quiet_step (first
      | (go_at_call 20; exact ext_below (CK8.out _ (Ext.below _)))
      | (go_at_call 39; exact ext_below (CV3.out _ (Ext.below _)))
      | (go_at_call 40; exact ext_below (CV4.out _ (Ext.below _)))
      | (go_at_call 27; first | (with_reducible exact ext_below (CSa.out _ (Ext.below _))) | (with_reducible exact ext_below (CSb.out _ (Ext.below _)))))))
  refine wpQuiet_nil ?_
  rintro ⟨w9, hb9⟩
  dsimp only
  go_wp2_with fail
  go_ret
  exact ⟨rfl, below_then HB8.out hb9⟩
end Go.Proofs.YtgdccmmcjicgkaaDoor
end
section
set_option maxRecDepth 100000
namespace Go.Proofs.YtgdccmmcjicgkaaDoor
open Go.Joins Go.ChangeShapes Go.WideShapes Go.RowKit Go.Deep
theorem gForms : Tryd.prog.globalNamed "dspcompiler/processor.forms" = some 0 := by kernel_rfl
theorem tForms : (Tryd.prog.globals[0]?).map (·.type) = some 134 := by kernel_rfl
theorem trod_form {H : Type} {enc : TypeId × Value → H} {w : World} {base fuel : Nat} {sp : Nat → Bool} {hd : Bool} {cs : List Value} {y : DataW H × List MemPlace}
    (hf : DataW.trod enc Tryd.prog w base sp hd fuel 133 cs = some y) :
    ∃ (s : ByteArray) (a b c : Int), cs = [.string s, .int .i64 a, .int .i64 b, .int .i64 c] ∧ y.1 = .agg [.lit (.string s.data.toList), .agg [.lit (.int .i64 a), .lit (.int .i64 b), .lit (.int .i64 c)]] := by
  obtain ⟨y0, y1, n, rfl, hl, h0, h1⟩ := trod_struct2 Tryd.underlying133 hf
  have kf : Tryd.prog.cellsOf 133 = 4 := by kernel_rfl
  have ks : Tryd.prog.cellsOf 9 = 1 := by kernel_rfl
  have ka : Tryd.prog.cellsOf 131 = 3 := by kernel_rfl
  have ki : Tryd.prog.cellsOf 3 = 1 := by kernel_rfl
  rw [kf] at hl
  match cs, hl with
  | [v0, v1, v2, v3], _ =>
    simp [ks, ka] at h0 h1
    obtain ⟨s, e0, f0, -⟩ := DataW.trod_string Tryd.underlying9 h0
    obtain ⟨xs, m, -, rfl, -, hlen, hel⟩ := DataW.trod_array Tryd.underlying131 h1
    have g0 := hel 0 (by decide)
    have g1 := hel 1 (by decide)
    have g2 := hel 2 (by decide)
    obtain ⟨y0, q0⟩ := get_lt hlen (i := 0) (by decide)
    obtain ⟨y1, q1⟩ := get_lt hlen (i := 1) (by decide)
    obtain ⟨y2, q2⟩ := get_lt hlen (i := 2) (by decide)
    rw [q0] at g0
    rw [q1] at g1
    rw [q2] at g2
    simp [ki] at g0 g1 g2
    obtain ⟨a, e1, f1, -⟩ := DataW.trod_int Tryd.underlying3 g0
    obtain ⟨b, e2, f2, -⟩ := DataW.trod_int Tryd.underlying3 g1
    obtain ⟨c, e3, f3, -⟩ := DataW.trod_int Tryd.underlying3 g2
    simp at e0 e1 e2 e3
    subst e0 e1 e2 e3 f0
    refine ⟨s, a, b, c, rfl, ?_⟩
    match xs, hlen, q0, q1, q2 with
    | [z0, z1, z2], _, q0, q1, q2 =>
      simp at q0 q1 q2
      subst q0 q1 q2 f1 f2 f3
      rfl
theorem forms_of_laid {W : World} {d : DataW Unit} (hd : d = .agg [.agg [.lit (.string [104, 97, 108, 116]), .agg [.lit (.int .i64 0), .lit (.int .i64 0), .lit (.int .i64 0)]], .agg [.lit (.string [99, 108, 101, 97, 114]), .agg [.lit (.int .i64 0), .lit (.int .i64 0), .lit (.int .i64 0)]], .agg [.lit (.string [109, 97, 99]), .agg [.lit (.int .i64 1), .lit (.int .i64 0), .lit (.int .i64 5)]], .agg [.lit (.string [109, 97, 99, 109]), .agg [.lit (.int .i64 2), .lit (.int .i64 0), .lit (.int .i64 5)]], .agg [.lit (.string [109, 97, 99, 99]), .agg [.lit (.int .i64 3), .lit (.int .i64 4), .lit (.int .i64 5)]], .agg [.lit (.string [114, 111, 117, 110, 100]), .agg [.lit (.int .i64 1), .lit (.int .i64 0), .lit (.int .i64 0)]], .agg [.lit (.string [108, 111, 97, 100]), .agg [.lit (.int .i64 1), .lit (.int .i64 2), .lit (.int .i64 0)]], .agg [.lit (.string [115, 116, 111, 114, 101]), .agg [.lit (.int .i64 1), .lit (.int .i64 2), .lit (.int .i64 0)]], .agg [.lit (.string [112, 117, 115, 104]), .agg [.lit (.int .i64 3), .lit (.int .i64 1), .lit (.int .i64 0)]], .agg [.lit (.string [105, 110]), .agg [.lit (.int .i64 1), .lit (.int .i64 0), .lit (.int .i64 0)]], .agg [.lit (.string [111, 117, 116]), .agg [.lit (.int .i64 1), .lit (.int .i64 0), .lit (.int .i64 0)]], .agg [.lit (.string [109, 111, 118, 101]), .agg [.lit (.int .i64 1), .lit (.int .i64 1), .lit (.int .i64 0)]]])
    (h : laidMetH Tryd.prog [("dspcompiler/processor.forms", d)] W) :
    FormsAt W ∧ ∀ k, k < 12 → ∃ s : ByteArray, W.cell? ⟨0, k * 4, none⟩ = some (.string s) ∧ s.data.toList = (opWord k).map UInt8.ofNat := by
  rw [MakeChecks.laidMetH_plain _ _ _ (by subst hd; rfl)] at h
  obtain ⟨ps, ⟨g0, t0, cs0, f0, p0, q0, hg0, ht0, hv0, hd0, -⟩, -, -⟩ := h
  obtain rfl := Option.some.inj (gForms.symm.trans hg0)
  obtain rfl := Option.some.inj (tForms.symm.trans ht0)
  have kf : Tryd.prog.cellsOf 133 = 4 := by kernel_rfl
  obtain ⟨xs, m, -, hx, -, hn, hel⟩ := DataW.trod_array Tryd.underlying134 hd0
  have hx1 : DataW.agg (xs.map (·.1)) = d := (congrArg Prod.fst hx).symm
  rw [hd] at hx1
  injection hx1 with hx1
  have key : ∀ k, k < 12 → ∃ (s : ByteArray), W.cell? ⟨0, k * 4, none⟩ = some (.string s) ∧ s.data.toList = (opWord k).map UInt8.ofNat ∧ W.cell? ⟨0, k * 4 + 1, none⟩ = some (.int .i64 (kA k)) ∧ W.cell? ⟨0, k * 4 + 2, none⟩ = some (.int .i64 (kB k)) ∧ W.cell? ⟨0, k * 4 + 3, none⟩ = some (.int .i64 (kC k)) := fun k hk => by
    have hk1 := hel k hk
    obtain ⟨y, hy⟩ := get_lt hn hk
    rw [hy] at hk1
    obtain ⟨s, a, b, c, ecs, ey⟩ := trod_form hk1
    rw [kf] at ecs
    have hc : ∀ j, j < 4 → W.cell? ⟨0, k * 4 + j, none⟩ = [Value.string s, .int .i64 a, .int .i64 b, .int .i64 c][j]? := fun j hj => by
      rw [World.var?_cell hg0 hv0 (k * 4 + j), ← ecs, List.getElem?_take, if_pos hj, List.getElem?_drop]
      simp
    have hyk : (xs.map (·.1))[k]? = some y.1 := by rw [List.getElem?_map, hy]; rfl
    rw [hx1, ey] at hyk
    have hw : ((opWord k).map UInt8.ofNat, kA k, kB k, kC k) = (s.data.toList, a, b, c) := by
      match k, hk with
      | 0, _ | 1, _ | 2, _ | 3, _ | 4, _ | 5, _ | 6, _ | 7, _ | 8, _ | 9, _ | 10, _ | 11, _ =>
        simp at hyk
        obtain ⟨h1, h2, h3, h4⟩ := hyk
        simp [opWord, kA, kB, kC, ← h1, ← h2, ← h3, ← h4]
    simp only [Prod.mk.injEq] at hw
    obtain ⟨w1, w2, w3, w4⟩ := hw
    refine ⟨s, by simpa using hc 0 (by decide), w1.symm, ?_, ?_, ?_⟩
    · rw [w2]; simpa using hc 1 (by decide)
    · rw [w3]; simpa using hc 2 (by decide)
    · rw [w4]; simpa using hc 3 (by decide)
  refine ⟨⟨?_, fun k hk => (key k hk).choose_spec.2.2⟩, fun k hk => ⟨_, (key k hk).choose_spec.1, (key k hk).choose_spec.2.1⟩⟩
  obtain ⟨s, hs, -⟩ := key 0 (by decide)
  exact Nat.lt_of_not_le fun hle => by
    have : W.heap[0]? = none := Array.getElem?_eq_none hle
    simp [World.cell?, this] at hs
end Go.Proofs.YtgdccmmcjicgkaaDoor
end
