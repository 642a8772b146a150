/- sampleAt and Run of the reference of package simulate, where nothing is wrong. Printed by gen_s30.py. -/
import Derived.Test.YtgdccmmcjicgkaaDoorcS29
import Derived.Test.YtgdccmmcjicgkaaDoorcJ3toE26
set_option linter.unusedVariables false
set_option linter.unusedSimpArgs false
namespace Go.Proofs.YtgdccmmcjicgkaaDoor
open Go.RowKit
theorem macB_zero {d : PrgD} {m : Mac} (hv : validB d = true) (hm : MacOk d m) : macB d ⟨m.regs, m.mem, m.heads, 0, 0⟩ = true := macB_mk hv hm ⟨Int.le_refl _, by show (0 : Int) ≤ _; omega⟩ ⟨Int.le_refl _, by show (0 : Int) ≤ _; omega⟩
set_option maxRecDepth 100000 in
set_option maxHeartbeats 8000000 in
theorem r39_sampleAt (u : PrgA) (x : MacA) (y : Int) (w : World) (hp : PrgAt w u) (hx : MacAt w x) (hv : validB u.d = true) (hok : MacOk u.d x.m) (hw : fitD u.d y = true) (hcy : -1000000000000000 ≤ x.m.cyc ∧ x.m.cyc ≤ 1000000000000000) (hst : -1000000000000000 ≤ x.m.stl ∧ x.m.stl ≤ 1000000000000000) :
    Calls Tryd.prog 62 #[u.v, x.v, .int .i64 y] w (RetSmp w u.d x.m y) := by
  have htm := time_in (l := u.d.code) (by have := (valid_parts hv).2.2.1; omega)
  obtain ⟨⟨rs, ms, hs, cy0, st0⟩, GA, MA, HX, gc, mc, xc⟩ := x
  simp only at hok hcy hst
  have CS : Hid (∀ w1, Below w.heap.size w w1 → Calls Tryd.prog 37 #[.agg u.lst.toArray, .agg (MacA.lst ⟨⟨rs, ms, hs, 0, 0⟩, GA, MA, HX, gc, mc, xc⟩).toArray, .int .i64 y] w1 (RetSmp w1 u.d ⟨rs, ms, hs, 0, 0⟩ y)) := Lib.hid fun w1 hb => by
    have h := r39_Sample u ⟨⟨rs, ms, hs, 0, 0⟩, GA, MA, HX, gc, mc, xc⟩ y w1 (hp.grow hb) ⟨hx.1.grow hb, hx.2.1.grow hb, hx.2.2.grow hb⟩ (macB_zero (m := ⟨rs, ms, hs, cy0, st0⟩) hv hok) hw
    unfold PrgA.v MacA.v at h
    exact h
  obtain ⟨gn, hgn⟩ : ∃ n, rs.length = n := ⟨_, rfl⟩
  obtain ⟨mn, hmn⟩ : ∃ n, ms.length = n := ⟨_, rfl⟩
  obtain ⟨hn, hhn⟩ : ∃ n, hs.length = n := ⟨_, rfl⟩
  have el : MacA.lst ⟨⟨rs, ms, hs, 0, 0⟩, GA, MA, HX, gc, mc, xc⟩ = [.slice GA gn gc, .slice MA mn mc, .slice HX hn xc, .int .i64 0, .int .i64 0] := by
    unfold MacA.lst
    simp only [hgn, hmn, hhn]
  have em : MacA.v ⟨⟨rs, ms, hs, cy0, st0⟩, GA, MA, HX, gc, mc, xc⟩ = .agg #[.slice GA gn gc, .slice MA mn mc, .slice HX hn xc, .int .i64 cy0, .int .i64 st0] := by
    unfold MacA.v MacA.lst
    simp only [hgn, hmn, hhn]
  have ev : u.v = .agg u.lst.toArray := rfl
  rw [el] at CS
  rw [ev, em]
  obtain ⟨cyc, hcyc⟩ : ∃ c, cycF u.d.code = c := ⟨_, rfl⟩
  obtain ⟨stc, hstc⟩ : ∃ c, stlF u.d.code = c := ⟨_, rfl⟩
  rw [hcyc, hstc] at htm
  obtain ⟨⟨t1, t2⟩, t3, t4⟩ := htm
  have HCYC := Lib.hid hcyc
  have HSTC := Lib.hid hstc
  obtain ⟨RR, hRR⟩ : ∃ r, RetSmp w u.d ⟨rs, ms, hs, cy0, st0⟩ y = r := ⟨_, rfl⟩
  have HNE : Hid ((sampF u.d y ⟨rs, ms, hs, cy0, st0⟩ u.d.code).regs.length = 8 ∧ (sampF u.d y ⟨rs, ms, hs, cy0, st0⟩ u.d.code).mem.length = 128) := Lib.hid ⟨(samp_all hv hw hok).st.rl, (samp_all hv hw hok).st.ml⟩
  have HRR : Hid (∀ e w', RetSmp w u.d ⟨rs, ms, hs, cy0, st0⟩ y e w' → RR e w') := by rw [hRR]; exact Lib.hid fun _ _ h => h
  simp only [hRR]
  clear el em ev hp hx hv hok hw hgn hmn hhn hcyc hstc hRR
  go_enter Tryd.func62, Tryd.ntmps62
  go_upto_region 1 with fail
  obtain ⟨bp, bm, br, hb0⟩ := entry3R w u.lst [.slice GA gn gc, .slice MA mn mc, .slice HX hn xc, .int .i64 cy0, .int .i64 st0] zeros5 _ rfl
  change Code.wp _ _ _ _ (((w.alloc (.cells u.lst.toArray 43)).alloc (.cells [.slice GA gn gc, .slice MA mn mc, .slice HX hn xc, .int .i64 cy0, .int .i64 st0].toArray 46)).alloc (.cells zeros5.toArray 46))
  generalize (((w.alloc (.cells u.lst.toArray 43)).alloc (.cells [.slice GA gn gc, .slice MA mn mc, .slice HX hn xc, .int .i64 cy0, .int .i64 st0].toArray 46)).alloc (.cells zeros5.toArray 46)) = W0 at bp bm br hb0 ⊢
  have HB0 := Lib.hid hb0
  have HP0 := Lib.hid bp
  have HM0 := Lib.hid bm
  have HR0 := Lib.hid br
  have e3 := bm.ext (k := 3) (v := .int .i64 cy0) rfl
  have e4 := bm.ext (k := 4) (v := .int .i64 st0) rfl
  clear hb0 bp bm br
  obtain ⟨gp, hgp⟩ : ∃ g, w.heap.size = g := ⟨_, rfl⟩
  have HGP := Lib.hid hgp
  rw [hgp] at HP0 HM0 HR0 e3 e4 ⊢
  clear hgp
  refine wp_region_ext (by kernel_rfl) (by kernel_rfl) ?_
  repeat (go_big_quiet_step (fail))
  refine wpQuiet_nil ?_
  rintro W1 ⟨⟨_, hb1⟩, rfl⟩
  have HB1 := Lib.hid (below_then HB0.out hb1)
  have HP1 := Lib.hid (HP0.out.keep hb1)
  have HM1 := Lib.hid (HM0.out.keep hb1)
  have HR1 := Lib.hid (HR0.out.keep hb1)
  clear hb1 e3 e4 HB0 HP0 HM0 HR0
  have f3 := HM1.out.2.2 3
  have f4 := HM1.out.2.2 4
  obtain ⟨-, -, -, y3, y4⟩ := HM1.out.c5
  go_upto_region 3 with fail
  have HM2 : Hid (Box ((W1.setCell ⟨gp + 1, 3, none⟩ (.int .i64 0)).setCell ⟨gp + 1, 4, none⟩ (.int .i64 0)) (gp + 1) [.slice GA gn gc, .slice MA mn mc, .slice HX hn xc, .int .i64 0, .int .i64 0]) := Lib.hid ((HM1.out.set (k := 3) (u := .int .i64 0) (by show 3 < 5; omega)).set (k := 4) (u := .int .i64 0) (by show 4 < 5; omega))
  have HP2 := Lib.hid (Box.past (b := gp + 1) (k := 4) (u := .int .i64 0) (Box.past (b := gp + 1) (k := 3) (u := .int .i64 0) HP1.out (by omega)) (by omega))
  have HR2 := Lib.hid (Box.past (b := gp + 1) (k := 4) (u := .int .i64 0) (Box.past (b := gp + 1) (k := 3) (u := .int .i64 0) HR1.out (by omega)) (by omega))
  have HB2 := Lib.hid (below_set (k := 4) (u := .int .i64 0) (below_set (k := 3) (u := .int .i64 0) HB1.out (show w.heap.size ≤ gp + 1 by have := HGP.out; omega)) (show w.heap.size ≤ gp + 1 by have := HGP.out; omega))
  clear f3 f4 y3 y4 HB1 HP1 HM1 HR1
  generalize (W1.setCell ⟨gp + 1, 3, none⟩ (.int .i64 0)).setCell ⟨gp + 1, 4, none⟩ (.int .i64 0) = W2 at HM2 HP2 HR2 HB2 ⊢
  go_upto_region 4 with (first
    | ((with_reducible show wpList _ _ _ (Oper.mk _ (.load 43 _) _ _ _ _ :: _) _ _); refine ld_prg HP2.out (lst_ten u) rfl _ rfl rfl ?_)
    | ((with_reducible show wpList _ _ _ (Oper.mk _ (.load 46 _) _ _ _ _ :: _) _ _); refine ld_mac HM2.out rfl rfl _ rfl rfl ?_)
    | (go_at_call 37; (with_reducible refine (CS.out _ HB2.out).mono ?_); rintro e1 w3 ⟨z, hz, rfl, hzm, hzf, hb3⟩; have HZL : Hid (z.lst.length = 5 ∧ z.lst.all (·.oneCell') = true) := Lib.hid ⟨rfl, rfl⟩)
    | ((with_reducible show wpList _ _ _ (Oper.mk _ (.store 46 _ _) _ _ _ _ :: _) _ _); refine st_mac (L := z.lst) (Box.new (w := w3) (t := 46) (vs := zeros5.toArray) rfl) rfl HZL.out.1 HZL.out.2 rfl _ _ rfl rfl rfl ?_; intro w4 hb4 hg4))
  obtain ⟨⟨rs1, ms1, hs1, cy1, st1⟩, GA1, MA1, HA1, gc1, mc1, hc1⟩ := z
  simp only at hz
  unfold macN at hz
  obtain ⟨rfl, rfl, rfl, hcy1, hst1⟩ : rs1 = (sampF u.d y ⟨rs, ms, hs, 0, 0⟩ u.d.code).regs ∧ ms1 = (sampF u.d y ⟨rs, ms, hs, 0, 0⟩ u.d.code).mem ∧ hs1 = (sampF u.d y ⟨rs, ms, hs, 0, 0⟩ u.d.code).heads ∧ cy1 = 0 + cyc ∧ st1 = 0 + stc := by
    rw [HCYC.out, HSTC.out] at hz
    injection hz with h1 h2 h3 h4 h5
    exact ⟨h1, h2, h3, h4, h5⟩
  rw [Int.zero_add] at hcy1 hst1
  subst cy1 st1
  have eS : sampF u.d y ⟨rs, ms, hs, 0, 0⟩ u.d.code = sampF u.d y ⟨rs, ms, hs, cy0, st0⟩ u.d.code := rfl
  simp only [eS] at hzm hzf hb4 ⊢
  obtain ⟨s, hs⟩ : ∃ s, sampF u.d y ⟨rs, ms, hs, cy0, st0⟩ u.d.code = s := ⟨_, rfl⟩
  simp only [hs] at hzm hzf hb4 ⊢
  have HSS := Lib.hid hs
  obtain ⟨l1, hl1⟩ : ∃ n, s.regs.length = n := ⟨_, rfl⟩
  obtain ⟨l2, hl2⟩ : ∃ n, s.mem.length = n := ⟨_, rfl⟩
  obtain ⟨l3, hl3⟩ : ∃ n, s.heads.length = n := ⟨_, rfl⟩
  have eL : MacA.lst ⟨⟨s.regs, s.mem, s.heads, cyc, stc⟩, GA1, MA1, HA1, gc1, mc1, hc1⟩ = [.slice GA1 l1 gc1, .slice MA1 l2 mc1, .slice HA1 l3 hc1, .int .i64 cyc, .int .i64 stc] := by
    unfold MacA.lst
    simp only [hl1, hl2, hl3]
  rw [eL] at hb4
  obtain ⟨zv, hzv⟩ : ∃ v, MacA.v ⟨⟨s.regs, s.mem, s.heads, cyc, stc⟩, GA1, MA1, HA1, gc1, mc1, hc1⟩ = v := ⟨_, rfl⟩
  rw [hzv]
  clear hzv
  have hb34 := put_facts ((Below.refl w3.heap.size w3).alloc (Nat.le_refl _) (.cells zeros5.toArray 46)) (Nat.le_refl _) hg4
  have HR4 := Lib.hid ((HR2.out.keep hb3).keep hb34)
  have HB4 := Lib.hid (below_then (below_then HB2.out hb3) hb34)
  have HX4 := Lib.hid hb4
  have HZ4 := Lib.hid (hzm.grow hb34)
  have HZF := Lib.hid (hzf.grow hb34)
  have HS4 : Hid (gp + 2 < w3.heap.size) := Lib.hid (HR2.out.keep hb3).1
  have HF4 : Hid (w.heap.size ≤ W2.heap.size ∧ gp + 2 < W2.heap.size) := Lib.hid ⟨HB2.out.size, HR2.out.1⟩
  have HZ3 := Lib.hid hzf
  have HL1 := Lib.hid hl1
  have HL2 := Lib.hid hl2
  have HL3 := Lib.hid hl3
  have HFB : Hid (W2.heap.size ≤ w3.heap.size) := Lib.hid hb3.size
  clear hz hzm hzf hb3 hb4 hg4 hb34 HM2 HP2 HR2 HB2 HZL eS hs eL hl1 hl2 hl3 CS
  obtain ⟨gx, hgx⟩ : ∃ g, w3.heap.size = g := ⟨_, rfl⟩
  rw [hgx] at HX4 HS4 HFB ⊢
  have HGX := Lib.hid hgx
  clear hgx
  have y3 : w4.cell? ⟨gx, 3, none⟩ = some (.int .i64 cyc) := HX4.out.2.1 3
  have y4 : w4.cell? ⟨gx, 4, none⟩ = some (.int .i64 stc) := HX4.out.2.1 4
  have f3 := HX4.out.2.2 3
  have f4 := HX4.out.2.2 4
  have wc : IntKind.i64.wrap (cyc + cy0) = cyc + cy0 := IntWalk.i64_in _ (by omega)
  have ws : IntKind.i64.wrap (stc + st0) = stc + st0 := IntWalk.i64_in _ (by omega)
  go_upto_region 5 with fail
  have HX5 : Hid (Box ((w4.setCell ⟨gx, 3, none⟩ (.int .i64 (cyc + cy0))).setCell ⟨gx, 4, none⟩ (.int .i64 (stc + st0))) gx [.slice GA1 l1 gc1, .slice MA1 l2 mc1, .slice HA1 l3 hc1, .int .i64 (cyc + cy0), .int .i64 (stc + st0)]) := Lib.hid ((HX4.out.set (k := 3) (u := .int .i64 (cyc + cy0)) (by show 3 < 5; omega)).set (k := 4) (u := .int .i64 (stc + st0)) (by show 4 < 5; omega))
  have HR5 := Lib.hid (Box.past (b := gx) (k := 4) (u := .int .i64 (stc + st0)) (Box.past (b := gx) (k := 3) (u := .int .i64 (cyc + cy0)) HR4.out (by have := HS4.out; omega)) (by have := HS4.out; omega))
  have HB5 := Lib.hid (below_set (k := 4) (u := .int .i64 (stc + st0)) (below_set (k := 3) (u := .int .i64 (cyc + cy0)) HB4.out (show w.heap.size ≤ gx by have := HF4.out; have := HFB.out; omega)) (show w.heap.size ≤ gx by have := HF4.out; have := HFB.out; omega))
  have HZ5 := Lib.hid (MacAt.off (g := gx) HZ3.out (Nat.le_of_eq HGX.out) HZ4.out HZF.out (grown_set (k := 4) (u := .int .i64 (stc + st0)) (grown_set (k := 3) (u := .int .i64 (cyc + cy0)) (grown_refl w4 _))))
  clear f3 f4 y3 y4 wc ws HX4 HR4 HB4 HZ4 HZ3 HZF
  generalize (w4.setCell ⟨gx, 3, none⟩ (.int .i64 (cyc + cy0))).setCell ⟨gx, 4, none⟩ (.int .i64 (stc + st0)) = w5 at HX5 HR5 HB5 HZ5 ⊢
  obtain ⟨dsc, hd1, hd2⟩ := row_mac
  go_wp2_with (first
    | ((with_reducible show wpList _ _ _ (Oper.mk _ (.load 46 _) _ _ _ _ :: _) _ _); refine ld_mac HX5.out rfl rfl _ rfl rfl ?_)
    | ((with_reducible show wpList _ _ _ (Oper.mk _ (.store 46 _ _) _ _ _ _ :: _) _ _); refine st_mac (L := [.slice GA1 l1 gc1, .slice MA1 l2 mc1, .slice HA1 l3 hc1, .int .i64 (cyc + cy0), .int .i64 (stc + st0)]) HR5.out rfl rfl rfl rfl _ _ rfl rfl rfl ?_; intro w9 hb9 hg9))
  refine bodyPost_ret (resCTTT rfl _ _ w9 (g := gp + 1 + 1) (v := .agg [.slice GA1 l1 gc1, .slice MA1 l2 mc1, .slice HA1 l3 hc1, .int .i64 (cyc + cy0), .int .i64 (stc + st0)].toArray) rfl (res_box _ hb9 dsc hd1 hd2 size_mac)) rfl ?_
  obtain ⟨hz9, hzf⟩ := HZ5.out.1.kept HZ5.out.2 hg9 HF4.out.2
  have hf4 := HF4.out
  refine HRR.out _ _ ?_
  have em := macN_eq (d := u.d) (y := y) (m := ⟨rs, ms, hs, cy0, st0⟩) HSS.out rfl rfl HCYC.out HSTC.out
  rw [Int.add_comm cy0, Int.add_comm st0] at em
  by_cases hne : s.regs = [] ∨ s.mem = []
  · exfalso
    have h2 := HNE.out
    rw [HSS.out] at h2
    rcases hne with e | e
    · have := h2.1; rw [e] at this; cases this
    · have := h2.2; rw [e] at this; cases this
  · exact RetSmp.mk rfl HL1.out HL2.out HL3.out hz9.1 hz9.2.1 hz9.2.2 (fun a e => ⟨Nat.le_trans hf4.1 (hzf.1 (fun q => hne (.inl q)) a e).1, (hzf.1 (fun q => hne (.inl q)) a e).2⟩) (fun a e => ⟨Nat.le_trans hf4.1 (hzf.2.1 (fun q => hne (.inr q)) a e).1, (hzf.2.1 (fun q => hne (.inr q)) a e).2⟩) (fun n a e => ⟨Nat.le_trans hf4.1 (hzf.2.2 n a e).1, (hzf.2.2 n a e).2⟩) (grown_toI HB5.out hg9 (by have := HGP.out; omega)) HSS.out em
def RetRunR (w : World) (d : PrgD) (m : Mac) (xs : List Int) (e : Ending) (w' : World) : Prop := ∃ (A : Option Addr) (c : Nat) (z : MacA), z.m = runM d m xs ∧ e = .returned (.tuple #[.slice A (runO d m xs).length c, z.v, .int .i64 (runV d m xs), .int .i64 0]) ∧ Own w.heap.size w' (.slice A (runO d m xs).length c) (runO d m xs) ∧ MacAt w' z ∧ MacF w.heap.size w' z ∧ Below w.heap.size w w'
theorem RetRunS.toR {w : World} {d : PrgD} {m : Mac} {xs : List Int} {e : Ending} {w' : World} (h : RetRunS w d m xs e w') : RetRunR w d m xs e w' := by
  obtain ⟨vo, vg, vm, vh, e1, ho, hm, hb⟩ := h
  obtain ⟨A, c, rfl, -⟩ := own_form ho.1
  obtain ⟨A1, c1, rfl, -⟩ := own_form hm.regs.1
  obtain ⟨A2, c2, rfl, -⟩ := own_form hm.mem.1
  obtain ⟨A3, c3, rfl, -⟩ := own_form hm.heads.1
  exact ⟨A, c, ⟨runM d m xs, A1, A2, A3, c1, c2, c3⟩, rfl, e1, ho, ⟨hm.regs.ints, hm.mem.ints, hm.heads.ints⟩, ⟨fun _ => own_ty hm.regs, fun _ => own_ty hm.mem, fun _ => own_ty hm.heads⟩, hb⟩
theorem sm_RunR (u : PrgA) (x : MacA) (XA : Option Addr) (xn xc : Nat) (xs : List Int) (w : World) (hf : FormsAt w) (hp : PrgAt w u) (hx : MacAt w x) (hi : Ints w XA xs) (hm : macB u.d x.m = true) (hw : wordD u.d xs = true) (hn : xs.length = xn) (h4 : xn ≤ 4096) :
    Calls Tryd.prog 24 #[u.v, x.v, .slice XA xn xc] w (RetRunR w u.d x.m xs) := (sm_Run u x XA xn xc xs w hf hp hx hi hm hw hn h4).mono fun _ _ h => h.toR
theorem built_mac5 (A B H : Option Addr) (an ac bn bc hn hc : Nat) (cy st : Int) : Tryd.prog.built 46 [(0, .slice A an ac), (1, .slice B bn bc), (2, .slice H hn hc), (3, .int .i64 cy), (4, .int .i64 st)] = some #[.slice A an ac, .slice B bn bc, .slice H hn hc, .int .i64 cy, .int .i64 st] := by kernel_rfl
def cqF (B gm : Nat) (GA MA HA : Option Addr) (gc mc hn hc : Nat) (rs ms hs : List Int) (cy st : Int) : Nat → Value → World → Prop
  | 0, v, _ | 4, v, _ | 8, v, _ => ∃ p, v = .slice (some p) 0 0
  | 1, v, _ => v = .pointer (some ⟨gm, 0, none⟩)
  | 2, v, _ => v = .slice GA 8 gc
  | 3, v, w => (∃ A c, v = .slice A 8 c) ∧ Own B w v rs
  | 5, v, _ => v = .pointer (some ⟨gm, 1, none⟩)
  | 6, v, _ => v = .slice MA 128 mc
  | 7, v, w => (∃ A c, v = .slice A 128 c) ∧ Own B w v ms
  | 9, v, _ => v = .pointer (some ⟨gm, 2, none⟩)
  | 10, v, _ => v = .slice HA hn hc
  | 11, v, w => (∃ A c, v = .slice A hn c) ∧ (hs ≠ [] → Own B w v hs)
  | 12, v, _ => v = .pointer (some ⟨gm, 3, none⟩)
  | 13, v, _ => v = .int .i64 cy
  | 14, v, _ => v = .pointer (some ⟨gm, 4, none⟩)
  | 15, v, _ => v = .int .i64 st
  | 16, v, w => ∃ (A0 A1 A2 : Option Addr) (c0 c1 c2 : Nat), v = .agg #[.slice A0 8 c0, .slice A1 128 c1, .slice A2 hn c2, .int .i64 cy, .int .i64 st] ∧ Own B w (.slice A0 8 c0) rs ∧ Own B w (.slice A1 128 c1) ms ∧ (hs ≠ [] → Own B w (.slice A2 hn c2) hs)
  | 17, v, w => ∃ q, v = .pointer (some ⟨q, 0, none⟩) ∧ Box w q zeros5 ∧ TyAt w q 46 ∧ B ≤ q
  | _, _, _ => True
theorem cqF_keep {B gm : Nat} {GA MA HA : Option Addr} {gc mc hn hc : Nat} {rs ms hs : List Int} {cy st : Int} {w w' : World} (h : Below w.heap.size w w') : ∀ i v, cqF B gm GA MA HA gc mc hn hc rs ms hs cy st i v w → cqF B gm GA MA HA gc mc hn hc rs ms hs cy st i v w'
  | 0, _, e | 4, _, e | 8, _, e | 1, _, e | 2, _, e | 5, _, e | 6, _, e | 9, _, e | 10, _, e | 12, _, e | 13, _, e | 14, _, e | 15, _, e => e
  | 3, _, ⟨f, e⟩ | 7, _, ⟨f, e⟩ => ⟨f, Own.grow e h⟩
  | 11, _, ⟨e, f⟩ => ⟨e, fun n => (f n).grow h⟩
  | 16, _, ⟨a, b, c, d, f, g, e, h1, h2, h3⟩ => ⟨a, b, c, d, f, g, e, h1.grow h, h2.grow h, fun n => (h3 n).grow h⟩
  | 17, _, ⟨q, e, b, t, g⟩ => ⟨q, e, b.keep h, t.grow b.1 h, g⟩
  | n + 18, _, e => e
def rqF (b : Nat) (L Z : List Value) (X : Value) (k y : Int) (p : Addr) (m : Mac) (o : Int) (ov : Bool) : Nat → Value → World → Prop
  | 0, v, _ => v = .agg L.toArray
  | 1, v, _ => v = .agg Z.toArray
  | 2, v, _ => v = X
  | 3, v, _ => v = .int .i64 k
  | 4, v, _ => v = .pointer (some p)
  | 5, v, _ => v = .int .i64 y
  | 6, v, w | 7, v, w => ∃ z : MacA, z.m = m ∧ v = .tuple #[z.v, .int .i64 o, .bool ov, .int .i64 0] ∧ MacAt w z ∧ MacF b w z
  | 8, v, w => ∃ z : MacA, z.m = m ∧ v = z.v ∧ MacAt w z ∧ MacF b w z
  | 9, v, _ => v = .int .i64 o
  | 10, v, _ => v = .bool ov
  | 11, v, _ => v = .int .i64 0
  | 12, v, w => ∃ q, v = .pointer (some ⟨q, 0, none⟩) ∧ Box w q zeros5 ∧ TyAt w q 46 ∧ b ≤ q
  | _, _, _ => True
theorem rqF_keep {b : Nat} {L Z : List Value} {X : Value} {k y : Int} {p : Addr} {m : Mac} {o : Int} {ov : Bool} {w w' : World} (h : Below w.heap.size w w') : ∀ i v, rqF b L Z X k y p m o ov i v w → rqF b L Z X k y p m o ov i v w'
  | 0, _, e | 1, _, e | 2, _, e | 3, _, e | 4, _, e | 5, _, e | 9, _, e | 10, _, e | 11, _, e => e
  | 6, _, ⟨z, e1, e2, h1, h2⟩ | 7, _, ⟨z, e1, e2, h1, h2⟩ | 8, _, ⟨z, e1, e2, h1, h2⟩ => ⟨z, e1, e2, h1.grow h, h2.grow h⟩
  | 12, _, ⟨q, e, b, t, g⟩ => ⟨q, e, b.keep h, t.grow b.1 h, g⟩
  | n + 13, _, e => e
theorem box_rangeS {w : World} {g : Nat} {vs : List Value} (h : Box w g vs) : w.rangeAt g 0 vs := fun j v hv => (h.2.1 (0 + j)).trans (by rw [Nat.zero_add]; exact hv)
theorem MacAt.growN {w w' : World} {z : MacA} (h : MacAt w z) (hg : w.grownBy w' none) : MacAt w' z := ⟨h.1.kept hg (fun _ _ _ e => by cases e), h.2.1.kept hg (fun _ _ _ e => by cases e), h.2.2.kept hg (fun _ _ _ e => by cases e)⟩
theorem MacF.growN {b : Nat} {w w' : World} {z : MacA} (h : MacF b w z) (hg : w.grownBy w' none) : MacF b w' z := h.map fun a q t => ⟨q, by have hl := t.lt; obtain ⟨cs, r, e⟩ := t; exact ⟨cs, r, (hg.block a.block hl (by intro e; cases e)).trans e⟩⟩
set_option maxRecDepth 100000 in
set_option maxHeartbeats 32000000 in
theorem r39_Run (u : PrgA) (x : MacA) (XA : Option Addr) (xn xc : Nat) (xs : List Int) (w : World) (hp : PrgAt w u) (hx : MacAt w x) (hi : Ints w XA xs) (hm : macB u.d x.m = true) (hw : wordD u.d xs = true) (hn : xs.length = xn) (h4 : xn ≤ 4096) :
    Calls Tryd.prog 25 #[u.v, x.v, .slice XA xn xc] w (RetRunR w u.d x.m xs) := by
  obtain ⟨hv, hok, hcy, hst⟩ := macB_parts hm
  have hpos := (valid_parts hv).2.2.1
  have hrl := (valid_rl hv).1
  have hl3 : x.m.heads.length ≤ 8 := by rw [hok.hl]; exact hrl
  have CV : Hid (∀ w1, Below w.heap.size w w1 → Calls Tryd.prog 29 #[.agg u.lst.toArray] w1 fun e w' => e = .returned (.bool true) ∧ Below w1.heap.size w1 w') := Lib.hid fun w1 hb => by
    have h := r38_Valid u w1 (hp.grow hb) (by omega) (by omega) hv
    unfold PrgA.v at h
    exact h
  have CM : Hid (∀ w1, Below w.heap.size w w1 → Calls Tryd.prog 40 #[.agg u.lst.toArray, .agg x.lst.toArray] w1 fun e w' => e = .returned (.bool true) ∧ Below w1.heap.size w1 w') := Lib.hid fun w1 hb => by
    have h := r39_Valid u x w1 (hp.grow hb) (hx.grow hb) (by omega) (by omega) ⟨by rw [hok.rl]; omega, by rw [hok.ml]; omega, by omega⟩ hm
    unfold PrgA.v MacA.v at h
    exact h
  have CW : Hid (∀ w1, Below w.heap.size w w1 → Calls Tryd.prog 61 #[wordV u.d.d0 u.d.d1 u.d.d2 u.d.d3, .slice XA xn xc] w1 fun e w' => e = .returned (.bool true) ∧ Below w1.heap.size w1 w') := Lib.hid fun w1 hb => by
    subst hn
    have h := rf_Words u.d.d0 u.d.d1 u.d.d2 u.d.d3 XA xs xc w1 (by omega) (hi.grow hb)
    unfold wordD at hw
    rw [hw] at h
    exact h
  have CS : Hid (∀ (z : MacA) (y : Int) (w1 : World), Below w.heap.size w w1 → MacAt w1 z → MacOk u.d z.m → fitD u.d y = true → (-1000000000000000 ≤ z.m.cyc ∧ z.m.cyc ≤ 1000000000000000) → (-1000000000000000 ≤ z.m.stl ∧ z.m.stl ≤ 1000000000000000) → Calls Tryd.prog 62 #[.agg u.lst.toArray, .agg z.lst.toArray, .int .i64 y] w1 (RetSmp w1 u.d z.m y)) := Lib.hid fun z y w1 hb h1 h2 h3 h4 h5 => by
    have h := r39_sampleAt u z y w1 (hp.grow hb) h1 hv h2 h3 h4 h5
    unfold PrgA.v MacA.v at h
    exact h
  have hbnd : ∀ k, k ≤ xn → (-1000000000000000 ≤ (runM u.d x.m (xs.take k)).cyc ∧ (runM u.d x.m (xs.take k)).cyc ≤ 1000000000000000) ∧ (-1000000000000000 ≤ (runM u.d x.m (xs.take k)).stl ∧ (runM u.d x.m (xs.take k)).stl ≤ 1000000000000000) := fun k hk => by
    obtain ⟨e1, e2⟩ := runM_time u.d (xs.take k) x.m
    obtain ⟨a, b⟩ := time_in (l := u.d.code) hpos.2
    have hkl : (xs.take k).length ≤ 4096 := by rw [List.length_take]; omega
    have h1 := mul_in (a := ((xs.take k).length : Int)) (b := cycF u.d.code) (A := 4096) (B := 2048) (by omega) (by omega) a.1 a.2
    have h2 := mul_in (a := ((xs.take k).length : Int)) (b := stlF u.d.code + 512) (A := 4096) (B := 2560) (by omega) (by omega) (by omega) (by omega)
    rw [Int.mul_add] at h2
    rw [e1, e2]
    constructor <;> omega
  obtain ⟨MM, hMM⟩ : ∃ m : Mac, x.m = m := ⟨_, rfl⟩
  obtain ⟨ZL, hZL⟩ : ∃ l : List Value, x.lst = l := ⟨_, rfl⟩
  have hZ5 : ZL.length = 5 ∧ ZL.all (·.oneCell') = true := by rw [← hZL]; exact ⟨rfl, rfl⟩
  have ev : u.v = .agg u.lst.toArray := rfl
  have em : x.v = .agg ZL.toArray := by rw [← hZL]; rfl
  rw [ev, em, hMM]
  rw [hZL] at CM
  rw [hMM] at hbnd hok hcy hst
  obtain ⟨hn0, hhn⟩ : ∃ n, x.m.heads.length = n := ⟨_, rfl⟩
  have HZC : Hid (ZL = [.slice x.GA 8 x.gc, .slice x.MA 128 x.mc, .slice x.HA hn0 x.hc, .int .i64 MM.cyc, .int .i64 MM.stl]) := by
    have e1 : x.m.regs.length = 8 := by rw [hMM]; exact hok.rl
    have e2 : x.m.mem.length = 128 := by rw [hMM]; exact hok.ml
    rw [← hZL]
    unfold MacA.lst
    rw [e1, e2, hhn, hMM]
    exact Lib.hid rfl
  rw [hMM] at hhn
  have HGA : Hid (Ints w x.GA MM.regs ∧ Ints w x.MA MM.mem ∧ Ints w x.HA MM.heads) := by rw [← hMM]; exact Lib.hid hx
  have HZ5 := Lib.hid hZ5
  have HBN := Lib.hid hbnd
  have HHN := Lib.hid hhn
  have HOK := Lib.hid hok
  have HN := Lib.hid hn
  have HI := Lib.hid hi
  have HP := Lib.hid hp
  have HV := Lib.hid hv
  have HW := Lib.hid hw
  have hl3' : hn0 ≤ 8 := by rw [← hhn, ← hMM]; exact hl3
  obtain ⟨GA, hGA⟩ : ∃ a, x.GA = a := ⟨_, rfl⟩
  obtain ⟨MA, hMA⟩ : ∃ a, x.MA = a := ⟨_, rfl⟩
  obtain ⟨HA, hHA⟩ : ∃ a, x.HA = a := ⟨_, rfl⟩
  obtain ⟨gc, hgc⟩ : ∃ a, x.gc = a := ⟨_, rfl⟩
  obtain ⟨mc, hmc⟩ : ∃ a, x.mc = a := ⟨_, rfl⟩
  obtain ⟨hc, hhc⟩ : ∃ a, x.hc = a := ⟨_, rfl⟩
  rw [hGA, hMA, hHA, hgc, hmc, hhc] at HZC
  rw [hGA, hMA, hHA] at HGA
  clear ev em hp hx hi hm hw hn hv hok hcy hst hbnd hl3 hrl hMM hZL hZ5 hhn hGA hMA hHA hgc hmc hhc
  go_enter Tryd.func25, Tryd.ntmps25
  go_upto_region 1 with fail
  obtain ⟨bp, bm, br, hb0⟩ := entry3R w u.lst ZL zeros5 _ rfl
  change Code.wp _ _ _ _ (((w.alloc (.cells u.lst.toArray 43)).alloc (.cells ZL.toArray 46)).alloc (.cells zeros5.toArray 46))
  generalize (((w.alloc (.cells u.lst.toArray 43)).alloc (.cells ZL.toArray 46)).alloc (.cells zeros5.toArray 46)) = W0 at bp bm br hb0 ⊢
  have HB0 := Lib.hid hb0
  have HP0 := Lib.hid bp
  have HM0 := Lib.hid bm
  have HR0 := Lib.hid br
  clear hb0 bp bm br
  obtain ⟨gp, hgp⟩ : ∃ g, w.heap.size = g := ⟨_, rfl⟩
  have HGP := Lib.hid hgp
  rw [hgp] at HP0 HM0 HR0 ⊢
  clear hgp
  have h41 : ¬ (4096 : Int) < (xn : Int) := by omega
  go_upto_region 3 with (first
    | ((with_reducible show wpList _ _ _ (Oper.mk _ (.load 43 _) _ _ _ _ :: _) _ _); refine ld_prg HP0.out (lst_ten u) rfl _ rfl rfl ?_)
    | (go_at_call 29; (with_reducible refine (CV.out _ HB0.out).mono ?_); rintro e1 w1 ⟨rfl, hb1⟩))
  have HB1 := Lib.hid (below_then HB0.out hb1)
  have HP1 := Lib.hid (HP0.out.keep hb1)
  have HM1 := Lib.hid (HM0.out.keep hb1)
  have HR1 := Lib.hid (HR0.out.keep hb1)
  clear hb1 HB0 HP0 HM0 HR0 CV
  go_upto_region 7 with (first
    | ((with_reducible show wpList _ _ _ (Oper.mk _ (.load 43 _) _ _ _ _ :: _) _ _); refine ld_prg HP1.out (lst_ten u) rfl _ rfl rfl ?_)
    | ((with_reducible show wpList _ _ _ (Oper.mk _ (.load 46 _) _ _ _ _ :: _) _ _); refine ld_mac HM1.out HZ5.out.1 rfl _ rfl rfl ?_)
    | (go_at_call 40; (with_reducible refine (CM.out _ HB1.out).mono ?_); rintro e1 w2 ⟨rfl, hb2⟩))
  have HB2 := Lib.hid (below_then HB1.out hb2)
  have HP2 := Lib.hid (HP1.out.keep hb2)
  have HM2 := Lib.hid (HM1.out.keep hb2)
  have HR2 := Lib.hid (HR1.out.keep hb2)
  clear hb2 HB1 HP1 HM1 HR1 CM h41
  have x0 : w2.cell? ⟨gp, 0, none⟩ = some (.int .i64 u.d.d0) := HP2.out.2.1 0
  have x1 : w2.cell? ⟨gp, 1, none⟩ = some (.int .i64 u.d.d1) := HP2.out.2.1 1
  have x2 : w2.cell? ⟨gp, 2, none⟩ = some (.int .i64 u.d.d2) := HP2.out.2.1 2
  have x3 : w2.cell? ⟨gp, 3, none⟩ = some (.int .i64 u.d.d3) := HP2.out.2.1 3
  go_upto_region 11 with (go_at_call 61; (with_reducible refine (CW.out _ HB2.out).mono ?_); rintro e1 w3 ⟨rfl, hb3⟩)
  have HB3 := Lib.hid (below_then HB2.out hb3)
  have HP3 := Lib.hid (HP2.out.keep hb3)
  have hm3 := HM2.out.keep hb3
  rw [HZC.out] at hm3
  have HM3 := Lib.hid hm3
  have HR3 := Lib.hid (HR2.out.keep hb3)
  clear hb3 HB2 HP2 HM2 HR2 x0 x1 x2 x3 hm3
  obtain ⟨B, hB⟩ : ∃ B, w3.heap.size = B := ⟨_, rfl⟩
  have HBE := Lib.hid hB
  have HGB : Hid (gp + 2 < B) := by have := HR3.out.1; rw [← hB]; exact Lib.hid this
  clear hB
  refine wp_region_grow 18 (fun w' => Below w3.heap.size w3 w') (fun a b => Below a.heap.size a b) (cqF B (gp + 1) GA MA HA gc mc hn0 hc MM.regs MM.mem MM.heads MM.cyc MM.stl) (by kernel_rfl) (by kernel_rfl) (Below.drew (Below.refl _ _)) (fun a b h1 h2 => ⟨below_then h1 h2, fun i _ v => cqF_keep h2 i v⟩) ?_ ?_
  · refine ⟨?_, ?_, ?_, ?_, ?_, ?_, ?_, ?_, ?_, ?_, ?_, ?_, ?_, ?_, ?_, ?_, ?_, ?_, trivial⟩
    all_goals
      intro vs w5 hp hF
      have m5 := HM3.out.keep hp
      have HI5 := Lib.hid (below_then HB3.out hp)
      have HQ5 : Hid (B ≤ w5.heap.size) := by have := hp.size; have := HBE.out; exact Lib.hid (by omega)
      obtain ⟨y0, y1, y2, y3, y4⟩ := m5.c5
      clear hp m5
      simp [depsB, Region.binds, cqF] at hF
      simp [stL, depsB, Region.binds, Act.put, hF]
    · go_wp2_with fail
      exact ⟨⟨_, rfl⟩, (Below.refl _ _).alloc (Nat.le_refl _) _⟩
    · go_wp2_with fail
      exact ⟨rfl, Below.refl _ _⟩
    · go_wp2_with fail
      exact ⟨rfl, Below.refl _ _⟩
    · obtain ⟨⟨p, e0⟩, e2⟩ := hF
      refine app_fresh (p := p) w5 rfl _ _ rfl (by exact e0) (by first | exact e2 | rfl) HOK.out.rl (HGA.out.1.grow HI5.out) (by decide) ?_
      intro v' w6 h1 h2 h3
      have h4 := h2 (by intro e; have := HOK.out.rl; rw [e] at this; cases this)
      exact wpList_nil ⟨rfl, _, rfl, ⟨h1, h4.base HQ5.out⟩, h3⟩
    · go_wp2_with fail
      exact ⟨⟨_, rfl⟩, (Below.refl _ _).alloc (Nat.le_refl _) _⟩
    · go_wp2_with fail
      exact ⟨rfl, Below.refl _ _⟩
    · go_wp2_with fail
      exact ⟨rfl, Below.refl _ _⟩
    · obtain ⟨⟨p, e4⟩, e6, -⟩ := hF
      refine app_fresh (p := p) w5 rfl _ _ rfl (by exact e4) (by first | exact e6 | rfl) HOK.out.ml (HGA.out.2.1.grow HI5.out) (by decide) ?_
      intro v' w6 h1 h2 h3
      have h4 := h2 (by intro e; have := HOK.out.ml; rw [e] at this; cases this)
      exact wpList_nil ⟨rfl, _, rfl, ⟨h1, h4.base HQ5.out⟩, h3⟩
    · go_wp2_with fail
      exact ⟨⟨_, rfl⟩, (Below.refl _ _).alloc (Nat.le_refl _) _⟩
    · go_wp2_with fail
      exact ⟨rfl, Below.refl _ _⟩
    · go_wp2_with fail
      exact ⟨rfl, Below.refl _ _⟩
    · obtain ⟨⟨p, e8⟩, e10, -⟩ := hF
      refine app_fresh (p := p) w5 rfl _ _ rfl (by exact e8) (by first | exact e10 | rfl) HHN.out (HGA.out.2.2.grow HI5.out) (by omega) ?_
      intro v' w6 h1 h2 h3
      exact wpList_nil ⟨rfl, _, rfl, ⟨h1, fun n => (h2 n).base HQ5.out⟩, h3⟩
    · go_wp2_with fail
      exact ⟨rfl, Below.refl _ _⟩
    · go_wp2_with fail
      exact ⟨rfl, Below.refl _ _⟩
    · go_wp2_with fail
      exact ⟨rfl, Below.refl _ _⟩
    · go_wp2_with fail
      exact ⟨rfl, Below.refl _ _⟩
    · obtain ⟨⟨⟨A0, c0, e3⟩, h3⟩, ⟨⟨A1, c1, e7⟩, h7⟩, ⟨⟨A2, c2, e11⟩, h11⟩, -, -⟩ := hF
      rw [e3] at h3
      rw [e7] at h7
      rw [e11] at h11
      simp [e3, e7, e11]
      refine wp_bldR rfl 46 _ rfl _ rfl (built_mac5 A0 A1 A2 8 c0 128 c1 hn0 c2 MM.cyc MM.stl) ?_
      exact wpList_nil ⟨rfl, _, rfl, ⟨_, _, _, _, _, _, rfl, h3, h7, h11⟩, Below.refl _ _⟩
    · go_wp2_with fail
      have hbx : Box (w5.alloc (.cells zeros5.toArray 46)) w5.heap.size zeros5 := Box.new rfl
      exact ⟨⟨_, rfl, hbx, ⟨_, _, heap_alloc_new w5 _⟩, HQ5.out⟩, Below.alloc (Below.refl _ _) (Nat.le_refl _) _⟩
  intro vs w5 hC hF
  obtain ⟨A0, A1, A2, c0, c1, c2, e16, h3, h7, h11⟩ := hF 16 (by decide)
  obtain ⟨gn, e17, hbx, hty, hqB⟩ := hF 17 (by decide)
  simp [stL, Act.put, e16, e17]
  clear hF e16 e17
  refine st_mac (L := [.slice A0 8 c0, .slice A1 128 c1, .slice A2 hn0 c2, .int .i64 MM.cyc, .int .i64 MM.stl]) hbx rfl rfl rfl rfl _ _ rfl rfl rfl ?_
  intro w6 hb6 hg6
  obtain ⟨z0, hz0⟩ : ∃ z : MacA, z = ⟨MM, A0, A1, A2, c0, c1, c2⟩ := ⟨_, rfl⟩
  have HZ0 : Hid (z0.m = MM ∧ Box w6 gn z0.lst ∧ MacAt w6 z0 ∧ MacF B w6 z0) := by
    subst hz0
    have n1 := own_ne h3.1 hty (by decide)
    have n2 := own_ne h7.1 hty (by decide)
    have i1 := (own_keptI h3 hg6 n1).ints
    have i2 := (own_keptI h7 hg6 n2).ints
    have i3 : Ints w6 A2 MM.heads := by
      by_cases e : MM.heads = []
      · rw [e]; exact Ints.nil
      · exact (own_keptI (h11 e) hg6 (own_ne (h11 e).1 hty (by decide))).ints
    refine Lib.hid ⟨rfl, ?_, ⟨i1, i2, i3⟩, fun _ => own_ty (own_keptI h3 hg6 n1), fun _ => own_ty (own_keptI h7 hg6 n2), fun e => own_ty (own_keptI (h11 e) hg6 (own_ne (h11 e).1 hty (by decide)))⟩
    unfold MacA.lst
    simp only [HOK.out.rl, HOK.out.ml, HHN.out]
    exact hb6
  have HB6 : Hid (Below B w3 w6) := by have := grown_toI (below_then (Below.refl w3.heap.size w3) hC) hg6 (by have := HBE.out; omega); rw [← HBE.out]; exact Lib.hid this
  have HNS : Hid (gn < w6.heap.size ∧ B ≤ gn) := by have := hb6.1; exact Lib.hid ⟨this, hqB⟩
  refine wpList_nil ⟨rfl, ?_⟩
  clear hC hbx hty hqB h3 h7 h11 hb6 hg6 hz0
  generalize vs 0 = v0
  generalize vs 1 = v1
  generalize vs 2 = v2
  generalize vs 3 = v3
  generalize vs 4 = v4
  generalize vs 5 = v5
  generalize vs 6 = v6
  generalize vs 7 = v7
  generalize vs 8 = v8
  generalize vs 9 = v9
  generalize vs 10 = v10
  generalize vs 11 = v11
  generalize vs 12 = v12
  generalize vs 13 = v13
  generalize vs 14 = v14
  generalize vs 15 = v15
  obtain ⟨C, hC⟩ : ∃ C, w6.heap.size = C := ⟨_, rfl⟩
  have HCE := Lib.hid hC
  clear hC
  simp only [Act.put]
  go_wp2_with fail
  go_loopw [10, 11, 13] (fun a b c wr => ∃ (k : Nat) (z : MacA), k ≤ xn ∧ b = .int .i64 (runV u.d MM (xs.take k)) ∧ c = .int .i64 k ∧ Hid (z.m = runM u.d MM (xs.take k)) ∧ Hid (Own C wr a (runO u.d MM (xs.take k))) ∧ Hid (Box wr gn z.lst) ∧ Hid (MacAt wr z) ∧ Hid (MacF B wr z) ∧ Hid (Below B w3 wr) ∧ Hid (C ≤ wr.heap.size)) (fun _ _ c _ => xn - (intOf c).toNat)
  case atStart => exact ⟨0, z0, Nat.zero_le _, rfl, rfl, Lib.hid HZ0.out.1, Lib.hid Own.nil, Lib.hid HZ0.out.2.1, Lib.hid HZ0.out.2.2.1, Lib.hid HZ0.out.2.2.2, HB6, Lib.hid (Nat.le_of_eq HCE.out.symm)⟩
  case round =>
    obtain ⟨k, z, hk, rfl, rfl, HZM, HO, HBX, HMA, HMF, HBk, HCW⟩ := hrel
    have HBW : Hid (Below w3.heap.size w3 wr) := by rw [HBE.out]; exact HBk
    by_cases hlt : k < xn
    · obtain ⟨ad, y, rfl, hbk, hy, hcc, i1, i2⟩ := ((HI.out.grow HB3.out).grow HBW.out).at_ (k := k) (by rw [HN.out]; exact hlt)
      have hft : fitD u.d y = true := by
        have := HW.out
        unfold wordD wordsB at this
        exact List.all_eq_true.1 this y (List.mem_of_getElem? hy)
      have HFT := Lib.hid hft
      have HY := Lib.hid hy
      have q1 : (0 : Int) ≤ (k : Int) := by omega
      have q2 : (k : Int) < (xn : Int) := by omega
      have wk : IntKind.i64.wrap ((k : Int) + 1) = ((k + 1 : Nat) : Int) := (IntWalk.i64_in _ (by omega)).trans (by omega)
      obtain ⟨M, hM⟩ : ∃ M, runM u.d MM (xs.take k) = M := ⟨_, rfl⟩
      obtain ⟨OL, hO⟩ : ∃ O, runO u.d MM (xs.take k) = O := ⟨_, rfl⟩
      obtain ⟨V, hV⟩ : ∃ V, runV u.d MM (xs.take k) = V := ⟨_, rfl⟩
      obtain ⟨so, hso⟩ : ∃ o, (sampF u.d y M u.d.code).out = o := ⟨_, rfl⟩
      obtain ⟨ov, hov⟩ : ∃ o, (sampF u.d y M u.d.code).ov = o := ⟨_, rfl⟩
      have hbn := HBN.out k hk
      have hMO : MacOk u.d M := hM ▸ runM_ok HV.out (xs.take k) MM (wordD_take HW.out k) HOK.out
      have hsoI : I64 so := hso ▸ (samp_all HV.out hft hMO).out
      have HRM : Hid (runM u.d MM (xs.take (k + 1)) = macN u.d y M) := Lib.hid (by rw [take_snoc' HY.out, runM_snoc, hM])
      have HRO : Hid (runO u.d MM (xs.take (k + 1)) = OL ++ [so]) := Lib.hid (by rw [take_snoc' HY.out, runO_snoc, hM, hO, hso])
      have HRV : Hid (runV u.d MM (xs.take (k + 1)) = V + if ov then 1 else 0) := Lib.hid (by rw [take_snoc' HY.out, runV_snoc, hM, hV]; unfold ovN; rw [hov])
      have hol : OL.length + 1 ≤ 100000000 := by rw [← hO, runO_len, List.length_take]; have := HN.out; omega
      rw [hM] at HZM hbn
      rw [hO] at HO
      rw [hV]
      obtain ⟨v1, v2⟩ := runV_in u.d MM (xs.take k)
      rw [hV] at v1 v2
      have hkl : (xs.take k).length ≤ 4096 := by rw [List.length_take]; omega
      have wV : IntKind.i64.wrap (V + 1) = V + 1 := IntWalk.i64_in _ (by omega)
      have CSY : Hid (∀ w1, Below wr.heap.size wr w1 → Calls Tryd.prog 62 #[.agg u.lst.toArray, .agg z.lst.toArray, .int .i64 y] w1 fun e w' => ∃ z' : MacA, z'.m = macN u.d y M ∧ e = .returned (.tuple #[z'.v, .int .i64 so, .bool ov, .int .i64 0]) ∧ MacAt w' z' ∧ MacF w1.heap.size w' z' ∧ Below w1.heap.size w1 w') := Lib.hid fun w1 hb => by
        have h := CS.out z y w1 (below_then (below_then HB3.out HBW.out) hb) (HMA.out.grow hb) (by rw [HZM.out]; exact hMO) hft (by rw [HZM.out]; exact hbn.1) (by rw [HZM.out]; exact hbn.2)
        unfold RetSmp at h
        rw [HZM.out, hso, hov] at h
        exact h
      have HSI := Lib.hid hsoI
      have HOLN := Lib.hid hol
      clear hft hy hM hO hV hso hov hbn hMO v1 v2 hkl hsoI hol i1 i2
      have HZL : Hid (z.lst.length = 5 ∧ z.lst.all (·.oneCell') = true) := Lib.hid ⟨rfl, rfl⟩
      obtain ⟨zl, hzl⟩ : ∃ l, z.lst = l := ⟨_, rfl⟩
      rw [hzl] at HBX CSY HZL
      obtain ⟨OA, oc, eo, -⟩ := own_form HO.out.1
      subst eo
      obtain ⟨on, hon⟩ : ∃ n, OL.length = n := ⟨_, rfl⟩
      rw [hon] at HO ⊢
      have HON := Lib.hid hon
      clear hzl hon
      go_upto_region 15 with fail
      refine wp_region_grow8 (fun x => Nat.blt x 13) (fun x => Nat.beq x 9 || Nat.beq x 10 || Nat.beq x 11) (fun w2 => Below wr.heap.size wr w2) (fun a b => Below a.heap.size a b) (rqF wr.heap.size u.lst zl (.slice (some ad) xn xc) (k : Int) y (ad.add k) (macN u.d y M) so ov) (by kernel_rfl) (by kernel_rfl) (Below.drew (Below.refl _ _)) (fun a b h1 h2 => ⟨below_then h1 h2, fun i _ v => rqF_keep h2 i v⟩) (fun w _ => Below.refl _ _) ?_ ?_ ?_
      · refine ⟨?_, ?_, ?_, ?_, ?_, ?_, ?_, ?_, ?_, ?_, ?_, ?_, ?_, trivial⟩
        all_goals
          intro vs w5 hp hF
          have HPX : Hid (Box w5 gp u.lst ∧ Box w5 gn zl) := Lib.hid ⟨(HP3.out.keep HBW.out).keep hp, HBX.out.keep hp⟩
          have HQ5 := Lib.hid hp
          have hc5 : w5.cell? (ad.add k) = some (.int .i64 y) := (hp.cell (by rw [block_add]; exact hbk)).trans hcc
          clear hp
          simp [depsB, Region.binds, rqF] at hF
          simp [stL, depsB, Region.binds, Act.put, hF]
        · refine ld_prg HPX.out.1 (lst_ten u) rfl _ rfl rfl ?_
          exact wpList_nil ⟨rfl, _, rfl, rfl, Below.refl _ _⟩
        · refine ld_mac HPX.out.2 HZL.out.1 rfl _ rfl rfl ?_
          exact wpList_nil ⟨rfl, _, rfl, rfl, Below.refl _ _⟩
        · go_wp2_with fail
          exact ⟨rfl, Below.refl _ _⟩
        · go_wp2_with fail
          exact ⟨rfl, Below.refl _ _⟩
        · go_wp2_with fail
          exact ⟨rfl, Below.refl _ _⟩
        · go_wp2_with fail
          exact ⟨rfl, Below.refl _ _⟩
        · go_wp2_with (go_at_call 62; (with_reducible refine (CSY.out _ HQ5.out).mono ?_); rintro e6 w6 ⟨z', h1, rfl, h2, h3, hb6⟩)
          first | exact ⟨⟨z', h1, rfl, h2, MacF.mono h3 HQ5.out.size⟩, hb6⟩ | exact ⟨z', h1, rfl, h2, MacF.mono h3 HQ5.out.size⟩
        · obtain ⟨z', h1, h2, h3, h4⟩ := hF
          go_wp2_with fail
          first | exact ⟨⟨z', h1, h2, h3, h4⟩, Below.refl _ _⟩ | exact ⟨⟨z', h1, rfl, h3, h4⟩, Below.refl _ _⟩
        · obtain ⟨z', h1, h2, h3, h4⟩ := hF
          simp [h2]
          go_wp2_with fail
          exact ⟨⟨z', h1, rfl, h3, h4⟩, Below.refl _ _⟩
        · obtain ⟨z', h1, h2, h3, h4⟩ := hF
          simp [h2]
          go_wp2_with fail
          exact ⟨rfl, Below.refl _ _⟩
        · obtain ⟨z', h1, h2, h3, h4⟩ := hF
          simp [h2]
          go_wp2_with fail
          exact ⟨rfl, Below.refl _ _⟩
        · obtain ⟨z', h1, h2, h3, h4⟩ := hF
          simp [h2]
          go_wp2_with fail
          exact ⟨rfl, Below.refl _ _⟩
        · go_wp2_with fail
          have hbx : Box (w5.alloc (.cells zeros5.toArray 46)) w5.heap.size zeros5 := Box.new rfl
          exact ⟨⟨_, rfl, hbx, ⟨_, _, heap_alloc_new w5 _⟩, HQ5.out.size⟩, Below.alloc (Below.refl _ _) (Nat.le_refl _) _⟩
      · intro j o ho _ hl
        have hj : j = 9 ∨ j = 10 ∨ j = 11 := by simpa [or_assoc] using hl
        intro vs w5 hC hF
        rcases hj with rfl | rfl | rfl
        all_goals
          injection ho with ho
          subst ho
          obtain ⟨z', h1, h2, h3, h4⟩ := hF 7 (by decide)
        · exact ⟨.int .i64 so, fun w' => by simp [execOp, stL, depsB, Region.binds, go_sem, Act.put, h2], rfl⟩
        · exact ⟨.bool ov, fun w' => by simp [execOp, stL, depsB, Region.binds, go_sem, Act.put, h2], rfl⟩
        · exact ⟨.int .i64 0, fun w' => by simp [execOp, stL, depsB, Region.binds, go_sem, Act.put, h2], rfl⟩
      intro vs w5 hC hF
      obtain ⟨z', hz', e8, hza, hzf⟩ := hF 8 (by decide) rfl
      have e9 : vs 9 = .int .i64 so := hF 9 (by decide) rfl
      have e10 : vs 10 = .bool ov := hF 10 (by decide) rfl
      have e11 : vs 11 = .int .i64 0 := hF 11 (by decide) rfl
      obtain ⟨q, e12, hbx, hty, hqb⟩ := hF 12 (by decide) rfl
      have e8' : vs 8 = .agg z'.lst.toArray := e8
      have HZL' : Hid (z'.lst.length = 5 ∧ z'.lst.all (·.oneCell') = true) := Lib.hid ⟨rfl, rfl⟩
      obtain ⟨zl', hzl'⟩ : ∃ l, z'.lst = l := ⟨_, rfl⟩
      rw [hzl'] at e8' HZL'
      have HZE := Lib.hid hzl'
      show wpList Tryd.prog _ _ [_, _, _, _] _ _
      simp [stL, Act.put, e8', e9, e10, e11, e12]
      clear hF e8 e8' e9 e10 e11 e12 hzl'
      refine st_mac (L := zl') hbx rfl HZL'.out.1 HZL'.out.2 rfl _ _ rfl rfl rfl ?_
      intro w6 hb6 hg6
      obtain ⟨hza6, hzf6⟩ := hza.ty hzf hg6 hty
      have HX6 := Lib.hid hb6
      have HA6 := Lib.hid hza6
      have HF6 := Lib.hid hzf6
      have HZM' := Lib.hid hz'
      have hbw6 := grown_toI hC hg6 hqb
      have HO6 := Lib.hid (HO.out.grow hbw6)
      have HB6' := Lib.hid (HBk.out.trans (hbw6.mono (by have := HBk.out.size; have := HBE.out; omega)))
      have HN6 := Lib.hid (HBX.out.keep hbw6)
      have HS6 : Hid (q < w6.heap.size ∧ wr.heap.size ≤ q) := Lib.hid ⟨hb6.1, hqb⟩
      have HOB : Hid (∀ b, (Value.slice OA on oc).ownBlock = some b → b < wr.heap.size) := Lib.hid (own_lt HO.out)
      have HC6 : Hid (C ≤ w6.heap.size) := by have := hbw6.size; have := HCW.out; exact Lib.hid (by omega)
      clear hbx hty hqb hza hzf hza6 hzf6 hz' hC hb6 hg6 hbw6 HMA HBX HO
      simp only [Act.put]
      go_upto_region 16 with fail
      obtain ⟨r0, hr0⟩ : ∃ r, (Value.slice OA on oc).ownBlock = r := ⟨_, rfl⟩
      have HR0' := Lib.hid hr0
      have hrl : ∀ b, r0 = some b → C ≤ b ∧ b < wr.heap.size := fun b e => ⟨HO6.out.ge b (by rw [hr0]; exact e), HOB.out b (by rw [hr0]; exact e)⟩
      have HRL := Lib.hid hrl
      have hqr : r0 ≠ some q := fun e => by have := hrl q e; have := HS6.out; omega
      have HQR := Lib.hid hqr
      clear hr0 hrl hqr
      obtain ⟨dsc, hd1, hd2⟩ := row_mac
      have HSR : (fun w' : World => w'.rangeAt q 0 zl') w6.drew := fun j v hv => HX6.out.2.1 (0 + j) |>.trans (by rw [Nat.zero_add]; exact hv)
      refine wp_region_held (S := fun w' => w'.rangeAt q 0 zl') (by kernel_rfl) ?_
      show wpAnyH Tryd.prog .any _ _ _ 7 #[false, false, false, false, false, false, false] _ _
      refine wpAnyH_take (i := 0) (oi := _) (v := (.agg zl'.toArray)) rfl (by kernel_rfl) (by kernel_rfl) (by kernel_rfl) (fun _ _ _ h => h) (yieldsIf_load_mid (by kernel_rfl) _ _ rfl q 0 rfl zl' dsc (fun w h => h) hd1 hd2 (size_mac.trans (congrArg some HZL'.out.1.symm))) HSR ?_
      show wpAnyH Tryd.prog .any _ _ _ _ _ (Act.put _ (some 76) _) _
      simp only [Act.put, List.setIfInBounds_toArray, List.set_cons_zero, List.set_cons_succ]
      refine wpAnyH_take (i := 1) (oi := _) (v := (.slice OA on oc)) rfl (by kernel_rfl) (by kernel_rfl) (by kernel_rfl) (fun _ _ _ h => h) (Or.inl ⟨by kernel_rfl, fun w _ => rfl⟩) HSR ?_
      show wpAnyH Tryd.prog .any _ _ _ _ _ (Act.put _ (some 77) _) _
      simp only [Act.put, List.setIfInBounds_toArray, List.set_cons_zero, List.set_cons_succ]
      refine wpAnyH_take (i := 2) (oi := _) (v := (.int .i64 so)) rfl (by kernel_rfl) (by kernel_rfl) (by kernel_rfl) (fun _ _ _ h => h) (Or.inl ⟨by kernel_rfl, fun w _ => rfl⟩) HSR ?_
      show wpAnyH Tryd.prog .any _ _ _ _ _ (Act.put _ (some 78) _) _
      simp only [Act.put, List.setIfInBounds_toArray, List.set_cons_zero, List.set_cons_succ]
      refine anyX_one (i := 3) rfl (by kernel_rfl) rfl (fun cs b h => by cases h) (fun d h => by cases h; exact of_decide_eq_true rfl) ?_
      go_wp2_with fail
      have o7 : RowI w6.heap.size [so] (.slice (some ⟨w6.heap.size, 0, none⟩) 1 1) (w6.alloc (.cells #[.int .i64 so] 3)).drew := (rowI_lit rfl rfl (fun x hx => by rw [List.mem_singleton.1 hx]; exact HSI.out) (Nat.le_refl _)).grow (drew_belowS _)
      have hbx7 := HX6.out.keep (((Below.refl w6.heap.size w6).alloc (Nat.le_refl _) (.cells #[.int .i64 so] 3)).drew)
      have hza7 := HA6.out.grow (((Below.refl w6.heap.size w6).alloc (Nat.le_refl _) (.cells #[.int .i64 so] 3)).drew)
      have hzf7 := HF6.out.grow (((Below.refl w6.heap.size w6).alloc (Nat.le_refl _) (.cells #[.int .i64 so] 3)).drew)
      have hn7 := HN6.out.keep (((Below.refl w6.heap.size w6).alloc (Nat.le_refl _) (.cells #[.int .i64 so] 3)).drew)
      have ho7 := HO6.out.grow (((Below.refl w6.heap.size w6).alloc (Nat.le_refl _) (.cells #[.int .i64 so] 3)).drew)
      have hb7 := (HB6'.out.alloc (by have := HB6'.out.size; have := HBE.out; have := HS6.out; have := HBW.out.size; omega) (.cells #[.int .i64 so] 3)).drew
      have hs7 : w6.heap.size < (w6.alloc (.cells #[.int .i64 so] 3)).drew.heap.size := by show _ < (w6.alloc (.cells #[.int .i64 so] 3)).heap.size; simp
      have HW7 := Lib.hid (show C ≤ (w6.alloc (.cells #[.int .i64 so] 3)).drew.heap.size by have := HC6.out; omega)
      have HS7 : Hid (q < (w6.alloc (.cells #[.int .i64 so] 3)).drew.heap.size ∧ wr.heap.size ≤ q) := Lib.hid ⟨by have := HS6.out; omega, HS6.out.2⟩
      refine ⟨box_rangeS hbx7, ?_⟩
      obtain ⟨A7, ⟨c7, e7⟩, hI7⟩ := o7
      injection e7 with e7 e7b e7c
      clear e7b e7c
      subst e7
      show wpAnyH Tryd.prog .any _ _ _ _ _ _ (w6.alloc (.cells #[.int .i64 so] 3)).drew
      generalize (w6.alloc (.cells #[.int .i64 so] 3)).drew = w7 at hbx7 hza7 hzf7 hn7 ho7 hb7 hI7 HW7 HS7 ⊢
      clear hs7
      try simp only [Act.put, List.setIfInBounds_toArray, List.set_cons_zero, List.set_cons_succ]
      refine anyX_one (i := 4) rfl (by kernel_rfl) rfl (fun cs b h => by cases h) (fun d h => by cases h; exact of_decide_eq_true rfl) ?_
      refine app_ints w7 rfl _ _ rfl C rfl rfl ho7 hI7.1 HOLN.out HW7.out ?_
      intro v8 w8 ho8 hg8 _
      have hg8' : w7.grownBy w8 r0 := by rw [← HR0'.out]; exact hg8
      have hbx8 := hbx7.grown hg8' (fun e => HQR.out e.symm)
      have hn8 := hn7.grown hg8' (fun e => by have := HRL.out gn e.symm; have := HNS.out; have := HCE.out; omega)
      have hzz8 : MacAt w8 z' ∧ MacF wr.heap.size w8 z' := by
        cases hr : r0 with
        | none => exact ⟨hza7.growN (hr ▸ hg8'), hzf7.growN (hr ▸ hg8')⟩
        | some g0 =>
          rw [hr] at hg8'
          exact hza7.kept hzf7 hg8' (HRL.out g0 hr).2
      have hb8 : Below B w3 w8 := hb7.grown hg8' (by have := hb7.size; have := HBE.out; omega) (fun j e => by have := HRL.out j e; have := HNS.out; have := HCE.out; omega)
      clear hbx7 hza7 hzf7 hn7 ho7 hb7 hI7 hg8
      refine wpList_nil ⟨rfl, _, rfl, box_rangeS hbx8, ?_⟩
      show wpAnyH Tryd.prog .any _ _ _ _ _ (Act.put _ (some 80) _) _
      try simp only [Act.put, List.setIfInBounds_toArray, List.set_cons_zero, List.set_cons_succ]
      refine anyX_one (i := 5) rfl (by kernel_rfl) rfl (fun cs b h => by cases h) (fun d h => by cases h) ?_
      refine st_mac (L := zl') hn8 HZL.out.1 HZL'.out.1 HZL'.out.2 rfl _ _ rfl rfl rfl ?_
      intro w9 hb9 hg9
      have hbx9 := hbx8.grown hg9 (fun e => by injection e with e; have := HNS.out; have := HCE.out; have := HCW.out; have := HS7.out; omega)
      obtain ⟨hza9, hzf9⟩ := hzz8.1.kept hzz8.2 hg9 (show gn < wr.heap.size by have := HNS.out; have := HCE.out; have := HCW.out; omega)
      refine wpList_nil ⟨rfl, undef, rfl, box_rangeS hbx9, ?_⟩
      show wpAnyH Tryd.prog .any _ _ _ _ _ (Act.put _ none _) _
      try simp only [Act.put, List.setIfInBounds_toArray, List.set_cons_zero, List.set_cons_succ]
      refine wpAnyH_take (i := 6) (oi := _) (v := v8) rfl (by kernel_rfl) (by kernel_rfl) (by kernel_rfl) (fun _ _ _ h => h) (Or.inl ⟨by kernel_rfl, fun w _ => by simp [execOp, go_sem, Act.put, Act.eval]⟩) (box_rangeS hbx9) ?_
      show wpAnyH Tryd.prog .any _ _ _ _ _ (Act.put _ (some 10) _) _
      try simp only [Act.put, List.setIfInBounds_toArray, List.set_cons_zero, List.set_cons_succ]
      refine wpAnyH_done (by kernel_rfl) ?_ _
      have HZA9 := Lib.hid hza9
      have HZF9 := Lib.hid (hzf9.mono (show B ≤ wr.heap.size by have := HNS.out; have := HCE.out; have := HCW.out; omega))
      have HBX9 := Lib.hid hb9
      have HB9 := Lib.hid (hb8.grown hg9 (by have := hb8.size; have := HBE.out; omega) (fun j e => by injection e with e; have := HNS.out; omega))
      have HO9 : Hid (Own C w9 v8 (OL ++ [so])) := Lib.hid ⟨own_setsI ho8.1 hg9 (by have := HNS.out; have := HCE.out; omega), ho8.2⟩
      have HC9 : Hid (C ≤ w9.heap.size) := Lib.hid (by have := hg9.size; have := hg8'.size; have := HW7.out; omega)
      clear hza9 hzf9 hb9 hg9 hbx9 hzz8 hb8 hn8 hbx8 hg8' ho8 HSR
      cases ov with
      | false =>
        go_wp2_with fail
        go_roundw
        case rel => exact ⟨k + 1, z', by omega, by rw [HRV.out]; simp, by go_num, by rw [HRM.out]; exact HZM', by rw [HRO.out]; exact HO9, by rw [HZE.out]; exact HBX9, HZA9, HZF9, HB9, HC9⟩
        case measure => simp [intOf]; omega
      | true =>
        go_wp2_with fail
        go_roundw
        case rel => exact ⟨k + 1, z', by omega, by rw [HRV.out]; simp, by go_num, by rw [HRM.out]; exact HZM', by rw [HRO.out]; exact HO9, by rw [HZE.out]; exact HBX9, HZA9, HZF9, HB9, HC9⟩
        case measure => simp [intOf]; omega
    · obtain rfl : k = xn := by omega
      have ht := List.take_of_length_le (l := xs) (Nat.le_of_eq HN.out)
      rw [ht] at HZM HO ⊢
      obtain ⟨V, hV⟩ : ∃ V, runV u.d MM xs = V := ⟨_, rfl⟩
      have HVV := Lib.hid hV
      rw [hV]
      clear hV
      obtain ⟨OL, hO⟩ : ∃ O, runO u.d MM xs = O := ⟨_, rfl⟩
      have HOO := Lib.hid hO
      rw [hO] at HO
      clear hO
      obtain ⟨OA, oc, eo, -⟩ := own_form HO.out.1
      subst eo
      obtain ⟨on, hon⟩ : ∃ n, OL.length = n := ⟨_, rfl⟩
      have HON := Lib.hid hon
      rw [hon] at HO ⊢
      clear hon
      have HRB : Hid (Box wr (gp + 1 + 1) zeros5) := Lib.hid (HR3.out.keep HBW.out)
      have HZL : Hid (z.lst.length = 5 ∧ z.lst.all (·.oneCell') = true) := Lib.hid ⟨rfl, rfl⟩
      have HZV : Hid (z.v = .agg z.lst.toArray) := Lib.hid rfl
      obtain ⟨zl, hzl⟩ : ∃ l, z.lst = l := ⟨_, rfl⟩
      rw [hzl] at HBX HZL HZV
      clear hzl
      obtain ⟨dsc, hd1, hd2⟩ := row_mac
      go_upto_region 19 with fail
      refine wp_region_grow8 (fun x => Nat.blt x 4) (fun x => Nat.beq x 2) (fun w2 => Below wr.heap.size wr w2) (fun a b => Below a.heap.size a b) (dF 0 [.v (.slice OA on oc), .v (.agg zl.toArray), .v (.int .i64 V), .v (.slice OA on oc)]) (by kernel_rfl) (by kernel_rfl) (Below.drew (Below.refl _ _)) (fun a b h1 h2 => ⟨below_then h1 h2, fun i _ v => dF_keep h2 i v⟩) (fun w _ => Below.refl _ _) ?_ ?_ ?_
      · refine ⟨?_, ?_, ?_, ?_, trivial⟩
        all_goals
          intro vs w5 hp hF
          have HB5 := Lib.hid (HBX.out.keep hp)
          clear hp
          simp [depsB, Region.binds, dF] at hF
          simp [stL, depsB, Region.binds, Act.put, hF]
        · go_wp2_with fail
          exact ⟨rfl, Below.refl _ _⟩
        · refine ld_mac HB5.out HZL.out.1 rfl _ rfl rfl ?_
          exact wpList_nil ⟨rfl, _, rfl, rfl, Below.refl _ _⟩
        · go_wp2_with fail
          exact ⟨rfl, Below.refl _ _⟩
        · go_wp2_with fail
          exact ⟨rfl, Below.refl _ _⟩
      · intro j o ho _ hl
        obtain rfl : j = 2 := by simpa using hl
        injection ho with ho
        subst ho
        intro vs w hC hF
        exact ⟨.int .i64 V, fun w' => by simp [execOp, stL, depsB, Region.binds, go_sem, Act.put], rfl⟩
      intro vs w5 hp hF
      have e1 : vs 1 = .agg zl.toArray := hF 1 (by decide) rfl
      have e2 : vs 2 = .int .i64 V := hF 2 (by decide) rfl
      have e3 : vs 3 = .slice OA on oc := hF 3 (by decide) rfl
      show wpList Tryd.prog _ _ [_, _, _] _ _
      simp [stL, Act.put, e1, e2, e3]
      clear hF e1 e2 e3
      refine st_mac (HRB.out.keep hp) rfl HZL.out.1 HZL.out.2 rfl _ _ rfl rfl rfl ?_
      intro w9 hb9 hg9
      have HO9 : Hid (Own C w9 (.slice OA on oc) OL) := Lib.hid ⟨own_setsI (HO.out.grow hp).1 hg9 (by have := HGB.out; have := HNS.out; have := HCE.out; omega), HO.out.2⟩
      have HB9 := Lib.hid (below_then (below_then HB3.out HBW.out) hp)
      obtain ⟨HZ9, HF9⟩ := (HMA.out.grow hp).kept (HMF.out.grow hp) hg9 (show gp + 1 + 1 < B by have := HGB.out; omega)
      clear hp
      simp only [Act.put]
      go_wp2_with fail
      refine bodyPost_ret (resTCTT rfl _ _ w9 (g := gp + 1 + 1) (v := .agg zl.toArray) rfl (res_box _ hb9 dsc hd1 hd2 (size_mac.trans (congrArg some HZL.out.1.symm)))) rfl ?_
      refine ⟨OA, oc, z, HZM.out, ?_, ?_, HZ9, HF9.mono (show w.heap.size ≤ B by have := HGP.out; have := HGB.out; omega), grown_toI HB9.out hg9 (by have := HGP.out; omega)⟩
      · rw [HOO.out, HVV.out, HZV.out, HON.out]; rfl
      · rw [HOO.out, HON.out]; exact HO9.out.base (by have := HGP.out; have := HGB.out; have := HNS.out; have := HCE.out; omega)
end Go.Proofs.YtgdccmmcjicgkaaDoor
