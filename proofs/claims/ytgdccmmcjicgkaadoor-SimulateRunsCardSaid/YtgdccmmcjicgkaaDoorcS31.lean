/- Same of the reference of layer 39; the examples of law 39. Printed by gen_s31.py. -/
import Derived.Test.YtgdccmmcjicgkaaDoorcS22toS14
import Derived.Test.YtgdccmmcjicgkaaDoorcJ3toE26
import Derived.Test.YtgdccmmcjicgkaaDoorcOdtoS26
import Derived.Test.YtgdccmmcjicgkaaDoorcV1toU3
import Derived.Test.YtgdccmmcjicgkaaDoorcE5toE14
import Derived.Test.YtgdccmmcjicgkaaDoorcFztoO
set_option linter.unusedVariables false
set_option linter.unusedSimpArgs false
namespace Go.Proofs.YtgdccmmcjicgkaaDoor
open Go.RowKit
theorem rdF_ge (R : List Int) : ∀ (rs : List Int) (N : Int), N ≤ rdF R N rs
  | [], N => Int.le_refl _
  | s :: rs, N => by
    show N ≤ rdF R (if s < 8 then max N (R.getD s.toNat 0) else N) rs
    have := rdF_ge R rs (if s < 8 then max N (R.getD s.toNat 0) else N)
    split at this <;> rename_i h <;> simp only [h, if_true, if_false] at * <;> omega
theorem tmF_ge (l : List Ins) : ∀ t : Int × List Int, t.1 + l.length ≤ (l.foldl tmS t).1 := by
  induction l with
  | nil => intro t; show t.1 + 0 ≤ t.1; omega
  | cons i l ih =>
    intro t
    have h := ih (tmS t i)
    have h2 := rdF_ge t.2 i.rd t.1
    show t.1 + ((l.length + 1 : Nat) : Int) ≤ (l.foldl tmS (tmS t i)).1
    have e : (tmS t i).1 = rdF t.2 t.1 i.rd + 1 := rfl
    omega
theorem stlF_pos {l : List Ins} (h : fineF l = true) : 0 ≤ stlF l ∧ cycF l = l.length + stlF l := by
  have := tmF_ge l (0, List.replicate 8 0)
  unfold stlF cycF
  rw [if_pos h, if_pos h]
  unfold tmF
  simp only at this
  omega
theorem bld_ins3 {ops : Array Oper} {rest : List Oper} {o : Oper} {a : Act} {Q : Exit → Act → World → Prop} {w : World} (i0 i1 i2 : Ins) (hgd : o.guard = none) (x0 x1 x2 : Operand) (ho : o.op = .buildSlice 22 3 #[(0, x0), (1, x1), (2, x2)]) (h0 : a.eval x0 = i0.v) (h1 : a.eval x1 = i1.v) (h2 : a.eval x2 = i2.v)
    (h : wpList Tryd.prog ops Q rest (a.put o.dst (.slice (some ⟨w.heap.size, 0, none⟩) 3 3)) (litI w [i0, i1, i2])) : wpList Tryd.prog ops Q (o :: rest) a w :=
  wp_bldS hgd 22 24 3 _ ho und_ins 4 size_ins (by decide) (by decide) _ rfl (by show builtS Tryd.prog 24 3 [(0, a.eval x0), (1, a.eval x1), (2, a.eval x2)] = _; rw [h0, h1, h2]; kernel_rfl) h
set_option maxRecDepth 100000 in
set_option maxHeartbeats 4000000 in
theorem r39_Same (x y : MacA) (w : World) (hx : MacAt w x) (hy : MacAt w y) (he : x.m = y.m) (h1 : x.m.regs.length ≤ 1000) (h2 : x.m.mem.length ≤ 1000) (h3 : x.m.heads.length ≤ 1000) : Calls Tryd.prog 27 #[.agg x.lst.toArray, .agg y.lst.toArray] w fun e w' => e = .returned (.bool true) ∧ Below w.heap.size w w' := by
  obtain ⟨⟨rs, ms, hs, cy, st⟩, GA, MA, HA, gc, mc, hc⟩ := x
  obtain ⟨m, GB, MB, HB, gd, md, hd⟩ := y
  simp only at he h1 h2 h3
  subst he
  obtain ⟨ga, ma, ha⟩ := hx
  obtain ⟨gb, mb, hb⟩ := hy
  simp only at ga ma ha gb mb hb
  obtain ⟨gn, hgn⟩ : ∃ n, rs.length = n := ⟨_, rfl⟩
  obtain ⟨mn, hmn⟩ : ∃ n, ms.length = n := ⟨_, rfl⟩
  obtain ⟨hn, hhn⟩ : ∃ n, hs.length = n := ⟨_, rfl⟩
  have e1 : MacA.lst ⟨⟨rs, ms, hs, cy, st⟩, GA, MA, HA, gc, mc, hc⟩ = [.slice GA gn gc, .slice MA mn mc, .slice HA hn hc, .int .i64 cy, .int .i64 st] := by
    unfold MacA.lst
    simp only [hgn, hmn, hhn]
  have e2 : MacA.lst ⟨⟨rs, ms, hs, cy, st⟩, GB, MB, HB, gd, md, hd⟩ = [.slice GB gn gd, .slice MB mn md, .slice HB hn hd, .int .i64 cy, .int .i64 st] := by
    unfold MacA.lst
    simp only [hgn, hmn, hhn]
  rw [e1, e2]
  clear e1 e2
  have C1 : Hid (∀ w1, Below w.heap.size w w1 → Calls Tryd.prog 19 #[.slice GA gn gc, .slice GB gn gd] w1 fun e w' => e = .returned (.bool true) ∧ Below w1.heap.size w1 w') := Lib.hid fun w1 h => rf_SameN GA GB rs rs gc gd gn gn w1 hgn hgn (by omega) rfl (ga.grow h) (gb.grow h)
  have C2 : Hid (∀ w1, Below w.heap.size w w1 → Calls Tryd.prog 19 #[.slice MA mn mc, .slice MB mn md] w1 fun e w' => e = .returned (.bool true) ∧ Below w1.heap.size w1 w') := Lib.hid fun w1 h => rf_SameN MA MB ms ms mc md mn mn w1 hmn hmn (by omega) rfl (ma.grow h) (mb.grow h)
  have C3 : Hid (∀ w1, Below w.heap.size w w1 → Calls Tryd.prog 19 #[.slice HA hn hc, .slice HB hn hd] w1 fun e w' => e = .returned (.bool true) ∧ Below w1.heap.size w1 w') := Lib.hid fun w1 h => rf_SameN HA HB hs hs hc hd hn hn w1 hhn hhn (by omega) rfl (ha.grow h) (hb.grow h)
  clear ga ma ha gb mb hb hgn hmn hhn h1 h2 h3
  have d1 : decide (cy = cy) = true := decide_eq_true rfl
  have d2 : decide (st = st) = true := decide_eq_true rfl
  have d3 : (cy == cy) = true := by simp
  have d4 : (st == st) = true := by simp
  go_enter Tryd.func27, Tryd.ntmps27
  go_upto_region 1 with fail
  obtain ⟨bp, br, hb0⟩ := entryMM w [.slice GA gn gc, .slice MA mn mc, .slice HA hn hc, .int .i64 cy, .int .i64 st] [.slice GB gn gd, .slice MB mn md, .slice HB hn hd, .int .i64 cy, .int .i64 st] _ rfl
  change Code.wp _ _ _ _ ((w.alloc (.cells [.slice GA gn gc, .slice MA mn mc, .slice HA hn hc, .int .i64 cy, .int .i64 st].toArray 46)).alloc (.cells [.slice GB gn gd, .slice MB mn md, .slice HB hn hd, .int .i64 cy, .int .i64 st].toArray 46))
  generalize ((w.alloc (.cells [.slice GA gn gc, .slice MA mn mc, .slice HA hn hc, .int .i64 cy, .int .i64 st].toArray 46)).alloc (.cells [.slice GB gn gd, .slice MB mn md, .slice HB hn hd, .int .i64 cy, .int .i64 st].toArray 46)) = W0 at bp br hb0 ⊢
  have HB0 := Lib.hid hb0
  have HX := Lib.hid bp
  have HY := Lib.hid br
  obtain ⟨y0, y1, y2, y3, y4⟩ := bp.c5
  obtain ⟨z0, z1, z2, z3, z4⟩ := br.c5
  clear hb0 bp br
  go_wp2_with (go_at_call 19; (first
    | ((with_reducible refine (C1.out _ HB0.out).mono ?_); rintro e1 w1 ⟨rfl, hb1⟩; have hbb1 := below_then HB0.out hb1; obtain ⟨y0, y1, y2, y3, y4⟩ := (HX.out.keep hb1).c5; obtain ⟨z0, z1, z2, z3, z4⟩ := (HY.out.keep hb1).c5)
    | ((with_reducible refine (C2.out _ hbb1).mono ?_); rintro e1 w2 ⟨rfl, hb2⟩; have hbb2 := below_then hbb1 hb2; have hb12 := below_then hb1 hb2; obtain ⟨y0, y1, y2, y3, y4⟩ := (HX.out.keep hb12).c5; obtain ⟨z0, z1, z2, z3, z4⟩ := (HY.out.keep hb12).c5)
    | ((with_reducible refine (C3.out _ hbb2).mono ?_); rintro e1 w3 ⟨rfl, hb3⟩; have hb13 := below_then hb12 hb3; obtain ⟨y0, y1, y2, y3, y4⟩ := (HX.out.keep hb13).c5; obtain ⟨z0, z1, z2, z3, z4⟩ := (HY.out.keep hb13).c5)))
  go_ret
  exact ⟨rfl, below_then hbb2 hb3⟩
abbrev kn39a : List Ins := [⟨6, 0, 0, 0⟩, ⟨10, 0, 0, 0⟩, ⟨0, 0, 0, 0⟩]
abbrev kn39b : List Ins := [⟨1, 0, 0, 0⟩, ⟨5, 1, 0, 0⟩, ⟨10, 1, 0, 0⟩, ⟨0, 0, 0, 0⟩]
theorem kn39a_time : cycF kn39a = 4 ∧ stlF kn39a = 1 ∧ depE kn39a = 0 := by decide +kernel
theorem kn39b_time : cycF kn39b = 6 ∧ stlF kn39b = 2 ∧ depE kn39b = 0 := by decide +kernel
theorem kn39a_ok : ∀ i ∈ kn39a, i.ok := by unfold Ins.ok I64; decide +kernel
theorem kn39b_ok : ∀ i ∈ kn39b, i.ok := by unfold Ins.ok I64; decide +kernel
set_option maxRecDepth 100000 in
set_option maxHeartbeats 4000000 in
theorem known39 (w : World) (hf : FormsAt w) : Calls Tryd.prog 20 #[] w fun e w' => e = .returned (.bool true) ∧ Below w.heap.size w w' := by
  have HF := Lib.hid hf
  have C1 : Hid (∀ w1 A c, Below w.heap.size w w1 → InsAt w1 A kn39a → Calls Tryd.prog 30 #[.slice A 3 c] w1 fun e w' => e = .returned (.tuple #[.int .i64 4, .int .i64 1, .int .i64 0]) ∧ Below w1.heap.size w1 w') := Lib.hid fun w1 A c hb hi => by
    have := sm_Time A 3 c kn39a w1 (HF.out.grow hb) hi rfl (by decide)
    unfold RetTime at this
    rw [kn39a_time.1, kn39a_time.2.1, kn39a_time.2.2] at this
    exact this
  have C2 : Hid (∀ w1 A c, Below w.heap.size w w1 → InsAt w1 A kn39b → Calls Tryd.prog 30 #[.slice A 4 c] w1 fun e w' => e = .returned (.tuple #[.int .i64 6, .int .i64 2, .int .i64 0]) ∧ Below w1.heap.size w1 w') := Lib.hid fun w1 A c hb hi => by
    have := sm_Time A 4 c kn39b w1 (HF.out.grow hb) hi rfl (by decide)
    unfold RetTime at this
    rw [kn39b_time.1, kn39b_time.2.1, kn39b_time.2.2] at this
    exact this
  clear hf
  go_enter Tryd.func20, Tryd.ntmps20
  go_upto_region 2 with (first
    | ((with_reducible show wpList _ _ _ (Oper.mk (some 11) _ _ _ _ _ :: _) _ _); refine bld_ins3 ⟨6, 0, 0, 0⟩ ⟨10, 0, 0, 0⟩ ⟨0, 0, 0, 0⟩ rfl _ _ _ rfl rfl rfl rfl ?_)
    | (go_at_call 30; (with_reducible refine (C1.out _ _ _ (litI_below w kn39a) (InsAt.lit kn39a_ok)).mono ?_); rintro e1 w1 ⟨rfl, hb1⟩))
  have HB2 := Lib.hid (below_then (litI_below w kn39a) hb1)
  clear hb1
  go_upto_region 3 with (first
    | ((with_reducible show wpList _ _ _ (Oper.mk (some 21) _ _ _ _ _ :: _) _ _); refine bld_ins4 ⟨1, 0, 0, 0⟩ ⟨5, 1, 0, 0⟩ ⟨10, 1, 0, 0⟩ ⟨0, 0, 0, 0⟩ rfl _ _ _ _ rfl rfl rfl rfl rfl ?_)
    | (go_at_call 30; (with_reducible refine (C2.out _ _ _ (below_then HB2.out (litI_below w1 kn39b)) (InsAt.lit kn39b_ok)).mono ?_); rintro e2 w2 ⟨rfl, hb3⟩))
  have HB4 := Lib.hid (below_then HB2.out (below_then (litI_below w1 kn39b) hb3))
  clear hb3
  go_wp2_with fail
  go_ret
  exact ⟨rfl, HB4.out⟩
end Go.Proofs.YtgdccmmcjicgkaaDoor
