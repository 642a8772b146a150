/- Package rational: Mul, Add. Printed by gen_z6.py. -/
import Derived.Test.YtmdfgidejdiiiaalZ3toZ5
set_option linter.unusedVariables false
set_option linter.unusedSimpArgs false
namespace Go.Proofs.Ytmdfgidejdiiiaa
open Go.RowKit
theorem rat_left (a b c : Rat) : a * (b * c) = b * (a * c) := by rw [← Rat.mul_assoc, Rat.mul_comm a, Rat.mul_assoc]
theorem frac_mulp {ps xs ys : Bool} {pl l7 xl xr yl yr : List Int} (h : sgn ps (nv pl) = sgn xs (nv xl) * sgn ys (nv yl)) (h7 : nv l7 = nv xr * nv yr) (hx : 0 < nv xr) (hy : 0 < nv yr) : frac xs xl xr * frac ys yl yr = frac ps pl l7 := by
  unfold frac
  rw [h, h7, Rat.intCast_mul, Rat.intCast_mul]
  have a := cast_pos hx
  have b := cast_pos hy
  rw [Rat.div_def, Rat.div_def, Rat.div_def, Rat.inv_mul_rev, Rat.mul_assoc, Rat.mul_assoc, rat_left _ (sgn ys (nv yl) : Rat), Rat.mul_comm (nv yr : Rat)⁻¹]
theorem frac_mul1 {xs ys : Bool} {xl xr yl yr : List Int} (hx : nv xr = 1) (hy : nv yr = 1) : ((sgn xs (nv xl) * sgn ys (nv yl) : Int) : Rat) = frac xs xl xr * frac ys yl yr := by
  unfold frac
  rw [hx, hy, ← one_div, ← one_div, Rat.intCast_mul]
theorem IntO.nrm {b b' : Nat} {w : World} {g : Bool} {A : Option Addr} {n c : Nat} {z : Int} {K : Nat} (h : IntO b w (.agg #[.bool g, .slice A n c]) z K) : ∃ l, (DigB b' w A l ∧ l.length = n ∧ n ≤ c ∧ n ≤ K) ∧ sgn g (nv l) = z := by
  obtain ⟨g', A', c', l', e, o, m, k, s⟩ := h
  simp at e
  obtain ⟨rfl, rfl, rfl, rfl⟩ := e
  exact ⟨l', ⟨o.digB, rfl, o.len.2, k⟩, s⟩
theorem nbx {ds : List Dt} {j : Nat} {P : Prop} (h : isBx ds j = false) : isBx ds j = true → P := fun e => by rw [h] at e; cases e
set_option maxRecDepth 100000 in
set_option maxHeartbeats 4000000 in
theorem rt_Mul (v u : Value) (x y : Rat) (K M : Nat) (w : World) (hx : RatA w v x K) (hy : RatA w u y M) (hK : 1 ≤ K) (hM : 1 ≤ M) (h9 : K ≤ 400000) (h8 : M ≤ 400000) : Calls Try.prog 42 #[v, u] w (RetQ w (x * y) (K + M)) := by
  have h9 : K ≤ 1000000 := by omega
  have h8 : M ≤ 1000000 := by omega
  have CX : Hid (∀ w1, Below w.heap.size w w1 → Calls Try.prog 86 #[v] w1 (RetNumB w.heap.size w1 x K)) := Lib.hid fun w1 hb => rt_readB v x K w w1 hx hb hK h9
  have CY : Hid (∀ w1, Below w.heap.size w w1 → Calls Try.prog 86 #[u] w1 (RetNumB w.heap.size w1 y M)) := Lib.hid fun w1 hb => rt_readB u y M w w1 hy hb hM h8
  obtain ⟨sa, A, na, ca, l, B, ma, da, r, rfl, -⟩ := hx
  obtain ⟨sb, A2, nb, cb, l2, B2, mb, db, r2, rfl, -⟩ := hy
  obtain ⟨dsR, hR1, hR2⟩ := row_Rat
  have HR := Lib.hid (And.intro hR1 hR2)
  clear hR1 hR2
  go_enter Try.func42, Try.ntmps42
  go_upto_region 1 with fail
  have hB0 : Below w.heap.size w (((w.alloc (.cells #[.bool sa, .slice A na ca, .slice B ma da] 28)).alloc (.cells #[.bool sb, .slice A2 nb cb, .slice B2 mb db] 28)).alloc (.cells #[.bool false, .slice none 0 0, .slice none 0 0] 28)) := ((((Below.refl _ _).alloc (Nat.le_refl _) _).alloc (by simp; try omega) _).alloc (by simp; try omega) _)
  have bx0 : Box (((w.alloc (.cells #[.bool sa, .slice A na ca, .slice B ma da] 28)).alloc (.cells #[.bool sb, .slice A2 nb cb, .slice B2 mb db] 28)).alloc (.cells #[.bool false, .slice none 0 0, .slice none 0 0] 28)) (w.heap.size) [.bool sa, .slice A na ca, .slice B ma da] := (((Box.new (by simp)).alloc _).alloc _)
  have bx1 : Box (((w.alloc (.cells #[.bool sa, .slice A na ca, .slice B ma da] 28)).alloc (.cells #[.bool sb, .slice A2 nb cb, .slice B2 mb db] 28)).alloc (.cells #[.bool false, .slice none 0 0, .slice none 0 0] 28)) (w.heap.size + 1) [.bool sb, .slice A2 nb cb, .slice B2 mb db] := ((Box.new (by simp)).alloc _)
  have bx2 : Box (((w.alloc (.cells #[.bool sa, .slice A na ca, .slice B ma da] 28)).alloc (.cells #[.bool sb, .slice A2 nb cb, .slice B2 mb db] 28)).alloc (.cells #[.bool false, .slice none 0 0, .slice none 0 0] 28)) (w.heap.size + 1 + 1) [.bool false, .slice none 0 0, .slice none 0 0] := (Box.new (by simp))
  generalize ((w.alloc (.cells #[.bool sa, .slice A na ca, .slice B ma da] 28)).alloc (.cells #[.bool sb, .slice A2 nb cb, .slice B2 mb db] 28)).alloc (.cells #[.bool false, .slice none 0 0, .slice none 0 0] 28) = wA at hB0 bx0 bx1 bx2 ⊢
  have HA := Lib.hid (And.intro hB0 (And.intro bx0 (And.intro bx1 bx2)))
  clear hB0 bx0 bx1 bx2
  refine wp_region_grow7 (fun i => Nat.blt i 6) (fun _ => false) (fun w9 => Below wA.heap.size wA w9) (gT [.v (.agg #[.bool sa, .slice A na ca, .slice B ma da]), .rd x K, .v (.agg #[.bool sb, .slice A2 nb cb, .slice B2 mb db]), .rd y M, .box 113 [.bool false, .slice none 0 0, .slice none 0 0, .bool false], .box 113 [.bool false, .slice none 0 0, .slice none 0 0, .bool false]]) (fun a b => Below a.heap.size a b) (dT wA.heap.size [.v (.agg #[.bool sa, .slice A na ca, .slice B ma da]), .rd x K, .v (.agg #[.bool sb, .slice A2 nb cb, .slice B2 mb db]), .rd y M, .box 113 [.bool false, .slice none 0 0, .slice none 0 0, .bool false], .box 113 [.bool false, .slice none 0 0, .slice none 0 0, .bool false]]) (by kernel_rfl) (by kernel_rfl) (Below.refl _ _).drew (fun j x a b h1 h2 => ⟨below_then h1 h2.1, fun i _ v => dT_keep h2.1 i v, Below.refl _ _, fun w0 h => below_then h h2.1⟩) (fun j v w h => by cases h) ?_ (fun j o _ _ h => by cases h) ?_
  · refine ⟨?_, ?_, ?_, ?_, ?_, ?_, trivial⟩
    all_goals
      intro vs w9 hp hF
      have HP := Lib.hid hp
      clear hp
      simp [depsB, Region.binds, dT] at hF
      simp [stL, depsB, Region.binds, Act.put, hF]
    · (obtain ⟨dI, hI1, hI2⟩ := row_Rat; refine wp_ld rfl 28 _ rfl (w.heap.size) 0 rfl (HA.out.2.1.keep HP.out) [.bool sa, .slice A na ca, .slice B ma da] (fun j v h => by rcases j with _ | _ | _ | _ | j <;> simp at h ⊢ <;> exact h) dI hI1 hI2 size_Rat ?_; go_wp2_with fail; exact ⟨rfl, Below.refl _ _, nbx rfl⟩)
    · go_wp2_with (go_at_call 86; (with_reducible refine (CX.out _ (below_then HA.out.1 HP.out)).mono ?_); rintro e1 w1' ⟨v1, rfl, hq, hb1⟩)
      exact ⟨hq.more HA.out.1.size, hb1, nbx rfl⟩
    · (obtain ⟨dI, hI1, hI2⟩ := row_Rat; refine wp_ld rfl 28 _ rfl (w.heap.size + 1) 0 rfl (HA.out.2.2.1.keep HP.out) [.bool sb, .slice A2 nb cb, .slice B2 mb db] (fun j v h => by rcases j with _ | _ | _ | _ | j <;> simp at h ⊢ <;> exact h) dI hI1 hI2 size_Rat ?_; go_wp2_with fail; exact ⟨rfl, Below.refl _ _, nbx rfl⟩)
    · go_wp2_with (go_at_call 86; (with_reducible refine (CY.out _ (below_then HA.out.1 HP.out)).mono ?_); rintro e1 w1' ⟨v1, rfl, hq, hb1⟩)
      exact ⟨hq.more HA.out.1.size, hb1, nbx rfl⟩
    · (go_wp2_with fail; exact ⟨BoxO.new HP.out.size, (Below.refl _ _).alloc (Nat.le_refl _) _, fun _ => rfl⟩)
    · (go_wp2_with fail; exact ⟨BoxO.new HP.out.size, (Below.refl _ _).alloc (Nat.le_refl _) _, fun _ => rfl⟩)
  intro vs w9 hp hF hpr
  obtain ⟨xs, XA, xn, xc, xl, XB, xm, xd, xr, xw, e1, hx1, hx2, hx3, hx4⟩ : NumA wA.heap.size w9 (vs 1) x K := hF 1 (by decide) rfl
  obtain ⟨ys, YA, yn, yc, yl, YB, ym, yd, yr, yw, e3, hy1, hy2, hy3, hy4⟩ : NumA wA.heap.size w9 (vs 3) y M := hF 3 (by decide) rfl
  obtain ⟨g4, e4, k4, b4, t4⟩ : BoxO wA.heap.size w9 (vs 4) 113 [.bool false, .slice none 0 0, .slice none 0 0, .bool false] := hF 4 (by decide) rfl
  obtain ⟨g5, e5, k5, b5, t5⟩ : BoxO wA.heap.size w9 (vs 5) 113 [.bool false, .slice none 0 0, .slice none 0 0, .bool false] := hF 5 (by decide) rfl
  have hne : g4 ≠ g5 := fun e => box_ne (i := 4) (j := 5) rfl rfl (hpr 4 5 (by decide) (by decide) rfl rfl (by decide)) (by rw [e4, e5, e])
  have hne' : some g5 ≠ some g4 := fun e => hne (by injection e with e; exact e.symm)
  clear hpr hF
  show wpList Try.prog _ _ [_, _] _ _
  simp [stL, Act.put, e1, e3, e4, e5]
  refine wp_st rfl 113 _ _ rfl g4 0 [.bool xs, .slice XA xn xc, .slice XB xm xd, .bool xw] rfl rfl size_Num rfl b4 (Nat.le_refl _) rfl ?_
  intro W1 c1 q1
  have b5' := b5.grown q1 hne'
  simp only [Act.put]
  refine wp_st rfl 113 _ _ rfl g5 0 [.bool ys, .slice YA yn yc, .slice YB ym yd, .bool yw] rfl rfl size_Num rfl b5' (Nat.le_refl _) rfl ?_
  intro w2 c2 q2
  have t5' := t5.kept q1 (Ne.symm hne)
  have fx1 := (hx1.1.kept q1 k4 t4 (by decide)).kept q2 k5 t5' (by decide)
  have fx2 := (hx2.1.kept q1 k4 t4 (by decide)).kept q2 k5 t5' (by decide)
  have fy1 := (hy1.1.kept q1 k4 t4 (by decide)).kept q2 k5 t5' (by decide)
  have fy2 := (hy2.1.kept q1 k4 t4 (by decide)).kept q2 k5 t5' (by decide)
  have HX : Hid (PairB wA.heap.size w2 (.agg #[.bool xs, .slice XA xn xc, .slice XB xm xd]) x K ∧ (xw = true → nv xr = 1)) := Lib.hid ⟨PairB.mk ⟨fx1, hx1.2⟩ ⟨fx2, hx2.2⟩ hx3.1 hx4, hx3.2⟩
  have HIX : Hid (IntB wA.heap.size w2 (.agg #[.bool xs, .slice XA xn xc]) (sgn xs (nv xl)) K) := Lib.hid (IntB.mk ⟨fx1, hx1.2⟩)
  have HDX : Hid (SlB wA.heap.size w2 (.slice XB xm xd) xr K) := Lib.hid ⟨_, _, _, rfl, fx2, hx2.2⟩
  have HIY : Hid (IntB wA.heap.size w2 (.agg #[.bool ys, .slice YA yn yc]) (sgn ys (nv yl)) M) := Lib.hid (IntB.mk ⟨fy1, hy1.2⟩)
  have HDY : Hid (SlB wA.heap.size w2 (.slice YB ym yd) yr M) := Lib.hid ⟨_, _, _, rfl, fy2, hy2.2⟩
  have HNX : Hid (IntB wA.heap.size w2 (.agg #[.bool false, .slice XB xm xd]) (nv xr) K) := Lib.hid (IntB.mk (ng := false) ⟨fx2, hx2.2⟩)
  have HNY : Hid (IntB wA.heap.size w2 (.agg #[.bool false, .slice YB ym yd]) (nv yr) M) := Lib.hid (IntB.mk (ng := false) ⟨fy2, hy2.2⟩)
  have HV : Hid (x = frac xs xl xr ∧ y = frac ys yl yr ∧ 0 < nv xr ∧ 0 < nv yr ∧ (xw = true → nv xr = 1) ∧ (yw = true → nv yr = 1)) := Lib.hid ⟨hx4, hy4, hx3.1, hy3.1, hx3.2, hy3.2⟩
  have HB : Hid (Below wA.heap.size wA w2) := Lib.hid (put_facts (put_facts hp k4 q1) k5 q2)
  have HG : Hid (Box w2 g4 [.bool xs, .slice XA xn xc, .slice XB xm xd, .bool xw] ∧ Box w2 g5 [.bool ys, .slice YA yn yc, .slice YB ym yd, .bool yw]) := Lib.hid ⟨c1.grown q2 (fun e => hne (by injection e)), c2⟩
  clear fx1 fx2 fy1 fy2 hx1 hx2 hx3 hx4 hy1 hy2 hy3 hy4 e1 e3 e4 e5 k4 k5 b4 b5 b5' t4 t5 t5' q1 q2 c1 c2 hne hne' hp CX CY
  have z0 : w2.cell? ⟨g4, 0, none⟩ = some (.bool xs) := HG.out.1.2.1 0
  have z1 : w2.cell? ⟨g4, 1, none⟩ = some (.slice XA xn xc) := HG.out.1.2.1 1
  have z2 : w2.cell? ⟨g4, 2, none⟩ = some (.slice XB xm xd) := HG.out.1.2.1 2
  have z3 : w2.cell? ⟨g4, 3, none⟩ = some (.bool xw) := HG.out.1.2.1 3
  have z4 : w2.cell? ⟨g5, 0, none⟩ = some (.bool ys) := HG.out.2.2.1 0
  have z5 : w2.cell? ⟨g5, 1, none⟩ = some (.slice YA yn yc) := HG.out.2.2.1 1
  have z6 : w2.cell? ⟨g5, 2, none⟩ = some (.slice YB ym yd) := HG.out.2.2.1 2
  have z7 : w2.cell? ⟨g5, 3, none⟩ = some (.bool yw) := HG.out.2.2.1 3
  go_wp2_with fail
  obtain ⟨dI, hI1, hI2⟩ := row_Int
  have HI := Lib.hid (And.intro hI1 hI2)
  clear hI1 hI2
  have CM : Hid (Calls Try.prog 87 #[.agg #[.bool xs, .slice XA xn xc], .agg #[.bool ys, .slice YA yn yc]] w2 (RetI w2 (sgn xs (nv xl) * sgn ys (nv yl)) (K + M))) := Lib.hid (it_MulA _ _ _ _ K M _ _ w2 HIX.out HIY.out h9 h8)
  go_upto_region 3 with (first
    | ((with_reducible show wpList _ _ _ (Oper.mk (some 14) (.load 26 _) _ _ _ _ :: _) _ _); refine wp_ld rfl 26 _ rfl (g4) 0 rfl (HG.out.1) [.bool xs, .slice XA xn xc] (fun j v h => by rcases j with _ | _ | _ | j <;> simp at h ⊢ <;> exact h) dI HI.out.1 HI.out.2 size_Int ?_)
    | ((with_reducible show wpList _ _ _ (Oper.mk (some 17) (.load 26 _) _ _ _ _ :: _) _ _); refine wp_ld rfl 26 _ rfl (g5) 0 rfl (HG.out.2) [.bool ys, .slice YA yn yc] (fun j v h => by rcases j with _ | _ | _ | j <;> simp at h ⊢ <;> exact h) dI HI.out.1 HI.out.2 size_Int ?_)
    | (go_at_call 87; (with_reducible refine CM.out.mono ?_); rintro e3 w3 ⟨v3, rfl, hi, hb3⟩; have HO := Lib.hid hi; obtain ⟨pn, PA, pc, pl, rfl, -⟩ := hi; have HB3 := Lib.hid hb3; clear hb3)
    | ((with_reducible show wpList _ _ _ (Oper.mk none (.store 26 _ _) _ _ _ _ :: _) _ _); refine wp_st rfl 26 _ _ rfl w3.heap.size 0 [.bool pn, .slice PA pl.length pc] rfl rfl size_Int rfl (Box.new rfl) (Nat.le_refl _) rfl ?_; intro w4 c4 q4))
  have hb4 : Below w3.heap.size w3 w4 := put_facts ((Below.refl _ _).alloc (Nat.le_refl _) _) (Nat.le_refl _) q4
  have P4 : Box w4 w3.heap.size [.bool pn, .slice PA pl.length pc] := c4
  have hb24 := below_then HB3.out hb4
  have H4 := Lib.hid (And.intro P4 hb24)
  have HO4 := Lib.hid (HO.out.grow hb4)
  have hpb : Below wA.heap.size wA w4 := below_then HB.out hb24
  have HA4 := Lib.hid (And.intro hpb (HA.out.2.2.2.keep hpb))
  clear c4 q4 hb4 P4 z0 z1 z2 z3 z4 z5 z6 z7 hpb
  have z2 : w4.cell? ⟨g4, 2, none⟩ = some (.slice XB xm xd) := (HG.out.1.keep hb24).2.1 2
  have z3 : w4.cell? ⟨g4, 3, none⟩ = some (.bool xw) := (HG.out.1.keep hb24).2.1 3
  have z6 : w4.cell? ⟨g5, 2, none⟩ = some (.slice YB ym yd) := (HG.out.2.keep hb24).2.1 2
  have z7 : w4.cell? ⟨g5, 3, none⟩ = some (.bool yw) := (HG.out.2.keep hb24).2.1 3
  clear hb24
  by_cases hw : xw = true ∧ yw = true
  · obtain ⟨rfl, rfl⟩ := hw
    have CW : Hid (Calls Try.prog 88 #[.agg #[.bool pn, .slice PA pl.length pc]] w4 (RetQb w2.heap.size w4 ((sgn xs (nv xl) * sgn ys (nv yl) : Int) : Rat) (K + M))) := Lib.hid (rt_wholeQ _ _ _ _ w4 HO4.out H4.out.2.size (by omega))
    go_wp2_with (first
      | ((with_reducible show wpList _ _ _ (Oper.mk (some 25) (.load 26 _) _ _ _ _ :: _) _ _); refine wp_ld rfl 26 _ rfl (w3.heap.size) 0 rfl (H4.out.1) [.bool pn, .slice PA pl.length pc] (fun j v h => by rcases j with _ | _ | _ | j <;> simp at h ⊢ <;> exact h) dI HI.out.1 HI.out.2 size_Int ?_)
      | (go_at_call 88; (with_reducible refine CW.out.mono ?_); rintro e5 w5 ⟨v5, rfl, hq, hb5⟩; have HQ := Lib.hid hq; obtain ⟨q2, A2', n2, c2, B2', m2, d2, rfl⟩ := hq.form; have HB5 := Lib.hid hb5; clear hq hb5)
      | ((with_reducible show wpList _ _ _ (Oper.mk none (.store 28 _ _) _ _ _ _ :: _) _ _); refine wp_st rfl 28 _ _ rfl (w.heap.size + 1 + 1) 0 [_, _, _] rfl rfl size_Rat rfl (HA4.out.2.keep HB5.out) (Nat.le_refl _) rfl ?_; intro W9 c9 g9))
    have hb5 := below_then (below_then HA.out.1 HA4.out.1) HB5.out
    have hW := put_facts (g := w.heap.size + 1 + 1) hb5 (by omega) g9
    have hq := (HQ.out.away g9 (Nat.lt_of_lt_of_le HA.out.2.2.2.1 HB.out.size)).base (b' := w.heap.size) (below_then HA.out.1 HB.out).size
    refine bodyPost_ret (resC rfl _ _ W9 (g := w.heap.size + 1 + 1) rfl (res_box 28 c9 dsR HR.out.1 HR.out.2 size_Rat)) rfl ?_
    refine ⟨_, rfl, ?_, hW⟩
    refine Eq.mp (congrArg (fun z => RatQ w.heap.size W9 _ z (K + M)) ?_) hq
    rw [HV.out.1, HV.out.2.1]; exact frac_mul1 (HV.out.2.2.2.2.1 trivial) (HV.out.2.2.2.2.2 trivial)

  · have hw' : xw = false ∨ (xw = true ∧ yw = false) := by cases xw <;> cases yw <;> simp at hw ⊢
    clear hw
    rcases hw' with rfl | ⟨rfl, rfl⟩
    · go_upto_region 5 with fail
      obtain ⟨rl, hr4⟩ := HO4.out.nrm (b' := w4.heap.size)
      have HR4 := Lib.hid hr4
      clear hr4
      have CN : Hid (∀ w5, Below w4.heap.size w4 w5 → Calls Try.prog 89 #[.slice XB xm xd, .slice YB ym yd] w5 (RetN w5 (nv xr * nv yr) (K + M))) := Lib.hid fun w5 h => nt_MulA _ _ xr yr K M _ _ w5 ((HDX.out.grow H4.out.2).grow h) ((HDY.out.grow H4.out.2).grow h) h9 h8
      have CL : Hid (∀ v1 w1 b, PairB b w1 v1 (frac xs xl xr * frac ys yl yr) (K + M) → Calls Try.prog 90 #[v1] w1 (RetQ w1 (frac xs xl xr * frac ys yl yr) (K + M))) := Lib.hid fun v1 w1 b h => rt_low v1 _ (K + M) b w1 h (by omega)
      refine wp_region_grow7 (fun i => Nat.blt i 10) (fun _ => false) (fun w9 => Below w4.heap.size w4 w9) (gT [.v (.agg #[.bool pn, .slice PA pl.length pc]), .v (.pointer (some ⟨g4, 0, none⟩)), .v (.pointer (some ⟨g4, 2, none⟩)), .v (.slice XB xm xd), .v (.pointer (some ⟨g5, 0, none⟩)), .v (.pointer (some ⟨g5, 2, none⟩)), .v (.slice YB ym yd), .num (nv xr * nv yr) (K + M), .pr (frac xs xl xr * frac ys yl yr) (K + M), .rq (frac xs xl xr * frac ys yl yr) (K + M)]) (fun a b => Below a.heap.size a b) (dT w4.heap.size [.v (.agg #[.bool pn, .slice PA pl.length pc]), .v (.pointer (some ⟨g4, 0, none⟩)), .v (.pointer (some ⟨g4, 2, none⟩)), .v (.slice XB xm xd), .v (.pointer (some ⟨g5, 0, none⟩)), .v (.pointer (some ⟨g5, 2, none⟩)), .v (.slice YB ym yd), .num (nv xr * nv yr) (K + M), .pr (frac xs xl xr * frac ys yl yr) (K + M), .rq (frac xs xl xr * frac ys yl yr) (K + M)]) (by kernel_rfl) (by kernel_rfl) (Below.refl _ _).drew (fun j x a b h1 h2 => ⟨below_then h1 h2.1, fun i _ v => dT_keep h2.1 i v, Below.refl _ _, fun w0 h => below_then h h2.1⟩) (fun j v w h => by cases h) ?_ (fun j o _ _ h => by cases h) ?_
      · refine ⟨?_, ?_, ?_, ?_, ?_, ?_, ?_, ?_, ?_, ?_, trivial⟩
        all_goals
          intro vs w9 hp hF
          have HP := Lib.hid hp
          have y2 : w9.cell? ⟨g4, 2, none⟩ = some (.slice XB xm xd) := (((HG.out.1.keep H4.out.2).keep hp)).2.1 2
          have y6 : w9.cell? ⟨g5, 2, none⟩ = some (.slice YB ym yd) := (((HG.out.2.keep H4.out.2).keep hp)).2.1 2
          clear hp
          simp [depsB, Region.binds, dT] at hF
          simp [stL, depsB, Region.binds, Act.put, hF]
        · (obtain ⟨dI, hI1, hI2⟩ := row_Int; refine wp_ld rfl 26 _ rfl (w3.heap.size) 0 rfl (H4.out.1.keep HP.out) [.bool pn, .slice PA pl.length pc] (fun j v h => by rcases j with _ | _ | _ | _ | j <;> simp at h ⊢ <;> exact h) dI hI1 hI2 size_Int ?_; go_wp2_with fail; exact ⟨rfl, Below.refl _ _, nbx rfl⟩)
        · (go_wp2_with fail; exact ⟨rfl, Below.refl _ _, nbx rfl⟩)
        · (go_wp2_with fail; exact ⟨rfl, Below.refl _ _, nbx rfl⟩)
        · (go_wp2_with fail; exact ⟨rfl, Below.refl _ _, nbx rfl⟩)
        · (go_wp2_with fail; exact ⟨rfl, Below.refl _ _, nbx rfl⟩)
        · (go_wp2_with fail; exact ⟨rfl, Below.refl _ _, nbx rfl⟩)
        · (go_wp2_with fail; exact ⟨rfl, Below.refl _ _, nbx rfl⟩)
        · go_wp2_with (go_at_call 89; (with_reducible refine (CN.out _ HP.out).mono ?_); intro e1 w1' h1; obtain ⟨v1, rfl, o1, hb1⟩ := h1.num (b := w4.heap.size) HP.out.size)
          exact ⟨o1, hb1, nbx rfl⟩
        · obtain ⟨e0, A', c', l', e7, o7, n7, m7, k7⟩ := hF
          simp only [e0, e7]
          go_wp2_with fail
          exact ⟨PairB.mk (b := w4.heap.size) ⟨HR4.out.1.1.grow HP.out, HR4.out.1.2⟩ ⟨o7.digB, rfl, o7.len.2, k7⟩ (by rw [n7]; exact Int.mul_pos HV.out.2.2.1 HV.out.2.2.2.1) (frac_mulp HR4.out.2 n7 HV.out.2.2.1 HV.out.2.2.2.1), Below.refl _ _, nbx rfl⟩
        · obtain ⟨⟨p1, p2, p3, p4, p5, p6, p7, p8, p9, e8, hp8⟩, -⟩ := hF
          simp only [e8]
          have HP8 := Lib.hid hp8
          clear hp8
          go_wp2_with (go_at_call 90; (with_reducible refine (CL.out _ _ w4.heap.size (PairB.mk HP8.out.1 HP8.out.2.1 HP8.out.2.2.1 HP8.out.2.2.2)).mono ?_); rintro e1 w1' ⟨v1, rfl, hq, hb1⟩)
          exact ⟨hq.base HP.out.size, hb1, nbx rfl⟩
      intro vs w9 hp hF hpr
      have hq : RatQ w4.heap.size w9 (vs 9) (frac xs xl xr * frac ys yl yr) (K + M) := hF 9 (by decide) rfl
      have HQ := Lib.hid (hq.base H4.out.2.size)
      obtain ⟨q2, A2', n2, c2, B2', m2, d2, e9⟩ := hq.form
      rw [e9] at HQ
      have HB5 := Lib.hid hp
      clear hF hpr hq hp
      show wpList Try.prog _ _ [_] _ _
      simp [stL, Act.put, e9]
      refine wp_st rfl 28 _ _ rfl (w.heap.size + 1 + 1) 0 [_, _, _] rfl rfl size_Rat rfl (HA4.out.2.keep HB5.out) (Nat.le_refl _) rfl ?_
      intro W9 c9 g9
      go_wp2_with fail
      have hb5 := below_then (below_then HA.out.1 HA4.out.1) HB5.out
      have hW := put_facts (g := w.heap.size + 1 + 1) hb5 (by omega) g9
      have hq := (HQ.out.away g9 (Nat.lt_of_lt_of_le HA.out.2.2.2.1 HB.out.size)).base (b' := w.heap.size) (below_then HA.out.1 HB.out).size
      refine bodyPost_ret (resC rfl _ _ W9 (g := w.heap.size + 1 + 1) rfl (res_box 28 c9 dsR HR.out.1 HR.out.2 size_Rat)) rfl ?_
      refine ⟨_, rfl, ?_, hW⟩
      refine Eq.mp (congrArg (fun z => RatQ w.heap.size W9 _ z (K + M)) ?_) hq
      rw [HV.out.1, HV.out.2.1]
    · go_upto_region 5 with fail
      obtain ⟨rl, hr4⟩ := HO4.out.nrm (b' := w4.heap.size)
      have HR4 := Lib.hid hr4
      clear hr4
      have CN : Hid (∀ w5, Below w4.heap.size w4 w5 → Calls Try.prog 89 #[.slice XB xm xd, .slice YB ym yd] w5 (RetN w5 (nv xr * nv yr) (K + M))) := Lib.hid fun w5 h => nt_MulA _ _ xr yr K M _ _ w5 ((HDX.out.grow H4.out.2).grow h) ((HDY.out.grow H4.out.2).grow h) h9 h8
      have CL : Hid (∀ v1 w1 b, PairB b w1 v1 (frac xs xl xr * frac ys yl yr) (K + M) → Calls Try.prog 90 #[v1] w1 (RetQ w1 (frac xs xl xr * frac ys yl yr) (K + M))) := Lib.hid fun v1 w1 b h => rt_low v1 _ (K + M) b w1 h (by omega)
      refine wp_region_grow7 (fun i => Nat.blt i 10) (fun _ => false) (fun w9 => Below w4.heap.size w4 w9) (gT [.v (.agg #[.bool pn, .slice PA pl.length pc]), .v (.pointer (some ⟨g4, 0, none⟩)), .v (.pointer (some ⟨g4, 2, none⟩)), .v (.slice XB xm xd), .v (.pointer (some ⟨g5, 0, none⟩)), .v (.pointer (some ⟨g5, 2, none⟩)), .v (.slice YB ym yd), .num (nv xr * nv yr) (K + M), .pr (frac xs xl xr * frac ys yl yr) (K + M), .rq (frac xs xl xr * frac ys yl yr) (K + M)]) (fun a b => Below a.heap.size a b) (dT w4.heap.size [.v (.agg #[.bool pn, .slice PA pl.length pc]), .v (.pointer (some ⟨g4, 0, none⟩)), .v (.pointer (some ⟨g4, 2, none⟩)), .v (.slice XB xm xd), .v (.pointer (some ⟨g5, 0, none⟩)), .v (.pointer (some ⟨g5, 2, none⟩)), .v (.slice YB ym yd), .num (nv xr * nv yr) (K + M), .pr (frac xs xl xr * frac ys yl yr) (K + M), .rq (frac xs xl xr * frac ys yl yr) (K + M)]) (by kernel_rfl) (by kernel_rfl) (Below.refl _ _).drew (fun j x a b h1 h2 => ⟨below_then h1 h2.1, fun i _ v => dT_keep h2.1 i v, Below.refl _ _, fun w0 h => below_then h h2.1⟩) (fun j v w h => by cases h) ?_ (fun j o _ _ h => by cases h) ?_
      · refine ⟨?_, ?_, ?_, ?_, ?_, ?_, ?_, ?_, ?_, ?_, trivial⟩
        all_goals
          intro vs w9 hp hF
          have HP := Lib.hid hp
          have y2 : w9.cell? ⟨g4, 2, none⟩ = some (.slice XB xm xd) := (((HG.out.1.keep H4.out.2).keep hp)).2.1 2
          have y6 : w9.cell? ⟨g5, 2, none⟩ = some (.slice YB ym yd) := (((HG.out.2.keep H4.out.2).keep hp)).2.1 2
          clear hp
          simp [depsB, Region.binds, dT] at hF
          simp [stL, depsB, Region.binds, Act.put, hF]
        · (obtain ⟨dI, hI1, hI2⟩ := row_Int; refine wp_ld rfl 26 _ rfl (w3.heap.size) 0 rfl (H4.out.1.keep HP.out) [.bool pn, .slice PA pl.length pc] (fun j v h => by rcases j with _ | _ | _ | _ | j <;> simp at h ⊢ <;> exact h) dI hI1 hI2 size_Int ?_; go_wp2_with fail; exact ⟨rfl, Below.refl _ _, nbx rfl⟩)
        · (go_wp2_with fail; exact ⟨rfl, Below.refl _ _, nbx rfl⟩)
        · (go_wp2_with fail; exact ⟨rfl, Below.refl _ _, nbx rfl⟩)
        · (go_wp2_with fail; exact ⟨rfl, Below.refl _ _, nbx rfl⟩)
        · (go_wp2_with fail; exact ⟨rfl, Below.refl _ _, nbx rfl⟩)
        · (go_wp2_with fail; exact ⟨rfl, Below.refl _ _, nbx rfl⟩)
        · (go_wp2_with fail; exact ⟨rfl, Below.refl _ _, nbx rfl⟩)
        · go_wp2_with (go_at_call 89; (with_reducible refine (CN.out _ HP.out).mono ?_); intro e1 w1' h1; obtain ⟨v1, rfl, o1, hb1⟩ := h1.num (b := w4.heap.size) HP.out.size)
          exact ⟨o1, hb1, nbx rfl⟩
        · obtain ⟨e0, A', c', l', e7, o7, n7, m7, k7⟩ := hF
          simp only [e0, e7]
          go_wp2_with fail
          exact ⟨PairB.mk (b := w4.heap.size) ⟨HR4.out.1.1.grow HP.out, HR4.out.1.2⟩ ⟨o7.digB, rfl, o7.len.2, k7⟩ (by rw [n7]; exact Int.mul_pos HV.out.2.2.1 HV.out.2.2.2.1) (frac_mulp HR4.out.2 n7 HV.out.2.2.1 HV.out.2.2.2.1), Below.refl _ _, nbx rfl⟩
        · obtain ⟨⟨p1, p2, p3, p4, p5, p6, p7, p8, p9, e8, hp8⟩, -⟩ := hF
          simp only [e8]
          have HP8 := Lib.hid hp8
          clear hp8
          go_wp2_with (go_at_call 90; (with_reducible refine (CL.out _ _ w4.heap.size (PairB.mk HP8.out.1 HP8.out.2.1 HP8.out.2.2.1 HP8.out.2.2.2)).mono ?_); rintro e1 w1' ⟨v1, rfl, hq, hb1⟩)
          exact ⟨hq.base HP.out.size, hb1, nbx rfl⟩
      intro vs w9 hp hF hpr
      have hq : RatQ w4.heap.size w9 (vs 9) (frac xs xl xr * frac ys yl yr) (K + M) := hF 9 (by decide) rfl
      have HQ := Lib.hid (hq.base H4.out.2.size)
      obtain ⟨q2, A2', n2, c2, B2', m2, d2, e9⟩ := hq.form
      rw [e9] at HQ
      have HB5 := Lib.hid hp
      clear hF hpr hq hp
      show wpList Try.prog _ _ [_] _ _
      simp [stL, Act.put, e9]
      refine wp_st rfl 28 _ _ rfl (w.heap.size + 1 + 1) 0 [_, _, _] rfl rfl size_Rat rfl (HA4.out.2.keep HB5.out) (Nat.le_refl _) rfl ?_
      intro W9 c9 g9
      go_wp2_with fail
      have hb5 := below_then (below_then HA.out.1 HA4.out.1) HB5.out
      have hW := put_facts (g := w.heap.size + 1 + 1) hb5 (by omega) g9
      have hq := (HQ.out.away g9 (Nat.lt_of_lt_of_le HA.out.2.2.2.1 HB.out.size)).base (b' := w.heap.size) (below_then HA.out.1 HB.out).size
      refine bodyPost_ret (resC rfl _ _ W9 (g := w.heap.size + 1 + 1) rfl (res_box 28 c9 dsR HR.out.1 HR.out.2 size_Rat)) rfl ?_
      refine ⟨_, rfl, ?_, hW⟩
      refine Eq.mp (congrArg (fun z => RatQ w.heap.size W9 _ z (K + M)) ?_) hq
      rw [HV.out.1, HV.out.2.1]
end Go.Proofs.Ytmdfgidejdiiiaa
