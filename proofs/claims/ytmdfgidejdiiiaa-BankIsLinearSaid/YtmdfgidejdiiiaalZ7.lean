/- Package rational: Add. Printed by gen_z6.py. -/
import Derived.Test.YtmdfgidejdiiiaalZ6
set_option linter.unusedVariables false
set_option linter.unusedSimpArgs false
namespace Go.Proofs.Ytmdfgidejdiiiaa
open Go.RowKit
theorem SlB.row {b : Nat} {w : World} {A : Option Addr} {n c : Nat} {l : List Int} {K : Nat} (h : SlB b w (.slice A n c) l K) : DigB b w A l ∧ l.length = n ∧ n ≤ c ∧ n ≤ K := by
  obtain ⟨A', n', c', e, h⟩ := h
  injection e with e1 e2 e3
  subst e1 e2 e3
  exact h
theorem cmpI_eq {x y : Int} (h : cmpI x y = 0) : x = y := by
  unfold cmpI at h
  split at h
  · cases h
  · split at h
    · assumption
    · cases h
theorem frac_sum1 {xs ys : Bool} {xl xr yl yr : List Int} (hx : nv xr = 1) (hy : nv yr = 1) : ((sgn xs (nv xl) + sgn ys (nv yl) : Int) : Rat) = frac xs xl xr + frac ys yl yr := by
  unfold frac
  rw [hx, hy, ← one_div, ← one_div, Rat.intCast_add]
theorem frac_sum2 {ps xs ys : Bool} {pl xl xr yl yr : List Int} (h : sgn ps (nv pl) = sgn xs (nv xl) + sgn ys (nv yl)) (hy : nv xr = nv yr) : frac xs xl xr + frac ys yl yr = frac ps pl xr := by
  unfold frac
  rw [h, ← hy, Rat.intCast_add, Rat.div_def, Rat.div_def, Rat.div_def, Rat.add_mul]
theorem frac_sump {ps xs ys : Bool} {pl l7 xl xr yl yr : List Int} (h : sgn ps (nv pl) = sgn xs (nv xl) * nv yr + sgn ys (nv yl) * nv xr) (h7 : nv l7 = nv xr * nv yr) (hx : 0 < nv xr) (hy : 0 < nv yr) : frac xs xl xr + frac ys yl yr = frac ps pl l7 := by
  unfold frac
  rw [h, h7, Rat.intCast_add, Rat.intCast_mul, Rat.intCast_mul, Rat.intCast_mul]
  have a := Rat.mul_inv_cancel _ (cast_pos hx)
  have b := Rat.mul_inv_cancel _ (cast_pos hy)
  rw [Rat.div_def, Rat.div_def, Rat.div_def, Rat.inv_mul_rev, Rat.add_mul, Rat.mul_assoc, ← Rat.mul_assoc (nv yr : Rat), b, Rat.one_mul, Rat.mul_comm (nv yr : Rat)⁻¹, Rat.mul_assoc, ← Rat.mul_assoc (nv xr : Rat), a, Rat.one_mul]
set_option maxRecDepth 100000 in
set_option maxHeartbeats 4000000 in
theorem rt_Add (v u : Value) (x y : Rat) (K M : Nat) (w : World) (hx : RatA w v x K) (hy : RatA w u y M) (hK : 1 ≤ K) (hM : 1 ≤ M) (h9 : K ≤ 400000) (h8 : M ≤ 400000) : Calls Try.prog 45 #[v, u] w (RetQ w (x + y) (K + M + 1)) := by
  have h9 : K ≤ 1000000 := by omega
  have h8 : M ≤ 1000000 := by omega
  have CX : Hid (∀ w1, Below w.heap.size w w1 → Calls Try.prog 86 #[v] w1 (RetNumB w.heap.size w1 x K)) := Lib.hid fun w1 hb => rt_readB v x K w w1 hx hb hK h9
  have CY : Hid (∀ w1, Below w.heap.size w w1 → Calls Try.prog 86 #[u] w1 (RetNumB w.heap.size w1 y M)) := Lib.hid fun w1 hb => rt_readB u y M w w1 hy hb hM h8
  obtain ⟨sa, A, na, ca, l, B, ma, da, r, rfl, -⟩ := hx
  obtain ⟨sb, A2, nb, cb, l2, B2, mb, db, r2, rfl, -⟩ := hy
  obtain ⟨dsR, hR1, hR2⟩ := row_Rat
  have HR := Lib.hid (And.intro hR1 hR2)
  clear hR1 hR2
  go_enter Try.func45, Try.ntmps45
  go_upto_region 1 with fail
  have hB0 : Below w.heap.size w (((w.alloc (.cells #[.bool sa, .slice A na ca, .slice B ma da] 28)).alloc (.cells #[.bool sb, .slice A2 nb cb, .slice B2 mb db] 28)).alloc (.cells #[.bool false, .slice none 0 0, .slice none 0 0] 28)) := ((((Below.refl _ _).alloc (Nat.le_refl _) _).alloc (by simp; try omega) _).alloc (by simp; try omega) _)
  have bx0 : Box (((w.alloc (.cells #[.bool sa, .slice A na ca, .slice B ma da] 28)).alloc (.cells #[.bool sb, .slice A2 nb cb, .slice B2 mb db] 28)).alloc (.cells #[.bool false, .slice none 0 0, .slice none 0 0] 28)) (w.heap.size) [.bool sa, .slice A na ca, .slice B ma da] := (((Box.new (by simp)).alloc _).alloc _)
  have bx1 : Box (((w.alloc (.cells #[.bool sa, .slice A na ca, .slice B ma da] 28)).alloc (.cells #[.bool sb, .slice A2 nb cb, .slice B2 mb db] 28)).alloc (.cells #[.bool false, .slice none 0 0, .slice none 0 0] 28)) (w.heap.size + 1) [.bool sb, .slice A2 nb cb, .slice B2 mb db] := ((Box.new (by simp)).alloc _)
  have bx2 : Box (((w.alloc (.cells #[.bool sa, .slice A na ca, .slice B ma da] 28)).alloc (.cells #[.bool sb, .slice A2 nb cb, .slice B2 mb db] 28)).alloc (.cells #[.bool false, .slice none 0 0, .slice none 0 0] 28)) (w.heap.size + 1 + 1) [.bool false, .slice none 0 0, .slice none 0 0] := (Box.new (by simp))
  generalize ((w.alloc (.cells #[.bool sa, .slice A na ca, .slice B ma da] 28)).alloc (.cells #[.bool sb, .slice A2 nb cb, .slice B2 mb db] 28)).alloc (.cells #[.bool false, .slice none 0 0, .slice none 0 0] 28) = wA at hB0 bx0 bx1 bx2 ⊢
  have HA := Lib.hid (And.intro hB0 (And.intro bx0 (And.intro bx1 bx2)))
  clear hB0 bx0 bx1 bx2
  refine wp_region_grow7 (fun i => Nat.blt i 6) (fun _ => false) (fun w9 => Below wA.heap.size wA w9) (gT [.v (.agg #[.bool sa, .slice A na ca, .slice B ma da]), .rd x K, .v (.agg #[.bool sb, .slice A2 nb cb, .slice B2 mb db]), .rd y M, .box 113 [.bool false, .slice none 0 0, .slice none 0 0, .bool false], .box 113 [.bool false, .slice none 0 0, .slice none 0 0, .bool false]]) (fun a b => Below a.heap.size a b) (dT wA.heap.size [.v (.agg #[.bool sa, .slice A na ca, .slice B ma da]), .rd x K, .v (.agg #[.bool sb, .slice A2 nb cb, .slice B2 mb db]), .rd y M, .box 113 [.bool false, .slice none 0 0, .slice none 0 0, .bool false], .box 113 [.bool false, .slice none 0 0, .slice none 0 0, .bool false]]) (by kernel_rfl) (by kernel_rfl) (Below.refl _ _).drew (fun j x a b h1 h2 => ⟨below_then h1 h2.1, fun i _ v => dT_keep h2.1 i v, Below.refl _ _, fun w0 h => below_then h h2.1⟩) (fun j v w h => by cases h) ?_ (fun j o _ _ h => by cases h) ?_
  · refine ⟨?_, ?_, ?_, ?_, ?_, ?_, trivial⟩
    all_goals
      intro vs w9 hp hF
      have HP := Lib.hid hp
      clear hp
      simp [depsB, Region.binds, dT] at hF
      simp [stL, depsB, Region.binds, Act.put, hF]
    · (obtain ⟨dI, hI1, hI2⟩ := row_Rat; refine wp_ld rfl 28 _ rfl (w.heap.size) 0 rfl (HA.out.2.1.keep HP.out) [.bool sa, .slice A na ca, .slice B ma da] (fun j v h => by rcases j with _ | _ | _ | _ | j <;> simp at h ⊢ <;> exact h) dI hI1 hI2 size_Rat ?_; go_wp2_with fail; exact ⟨rfl, Below.refl _ _, nbx rfl⟩)
    · go_wp2_with (go_at_call 86; (with_reducible refine (CX.out _ (below_then HA.out.1 HP.out)).mono ?_); rintro e1 w1' ⟨v1, rfl, hq, hb1⟩)
      exact ⟨hq.more HA.out.1.size, hb1, nbx rfl⟩
    · (obtain ⟨dI, hI1, hI2⟩ := row_Rat; refine wp_ld rfl 28 _ rfl (w.heap.size + 1) 0 rfl (HA.out.2.2.1.keep HP.out) [.bool sb, .slice A2 nb cb, .slice B2 mb db] (fun j v h => by rcases j with _ | _ | _ | _ | j <;> simp at h ⊢ <;> exact h) dI hI1 hI2 size_Rat ?_; go_wp2_with fail; exact ⟨rfl, Below.refl _ _, nbx rfl⟩)
    · go_wp2_with (go_at_call 86; (with_reducible refine (CY.out _ (below_then HA.out.1 HP.out)).mono ?_); rintro e1 w1' ⟨v1, rfl, hq, hb1⟩)
      exact ⟨hq.more HA.out.1.size, hb1, nbx rfl⟩
    · (go_wp2_with fail; exact ⟨BoxO.new HP.out.size, (Below.refl _ _).alloc (Nat.le_refl _) _, fun _ => rfl⟩)
    · (go_wp2_with fail; exact ⟨BoxO.new HP.out.size, (Below.refl _ _).alloc (Nat.le_refl _) _, fun _ => rfl⟩)
  intro vs w9 hp hF hpr
  obtain ⟨xs, XA, xn, xc, xl, XB, xm, xd, xr, xw, e1, hx1, hx2, hx3, hx4⟩ : NumA wA.heap.size w9 (vs 1) x K := hF 1 (by decide) rfl
  obtain ⟨ys, YA, yn, yc, yl, YB, ym, yd, yr, yw, e3, hy1, hy2, hy3, hy4⟩ : NumA wA.heap.size w9 (vs 3) y M := hF 3 (by decide) rfl
  obtain ⟨g4, e4, k4, b4, t4⟩ : BoxO wA.heap.size w9 (vs 4) 113 [.bool false, .slice none 0 0, .slice none 0 0, .bool false] := hF 4 (by decide) rfl
  obtain ⟨g5, e5, k5, b5, t5⟩ : BoxO wA.heap.size w9 (vs 5) 113 [.bool false, .slice none 0 0, .slice none 0 0, .bool false] := hF 5 (by decide) rfl
  have hne : g4 ≠ g5 := fun e => box_ne (i := 4) (j := 5) rfl rfl (hpr 4 5 (by decide) (by decide) rfl rfl (by decide)) (by rw [e4, e5, e])
  have hne' : some g5 ≠ some g4 := fun e => hne (by injection e with e; exact e.symm)
  clear hpr hF
  show wpList Try.prog _ _ [_, _] _ _
  simp [stL, Act.put, e1, e3, e4, e5]
  refine wp_st rfl 113 _ _ rfl g4 0 [.bool xs, .slice XA xn xc, .slice XB xm xd, .bool xw] rfl rfl size_Num rfl b4 (Nat.le_refl _) rfl ?_
  intro W1 c1 q1
  have b5' := b5.grown q1 hne'
  simp only [Act.put]
  refine wp_st rfl 113 _ _ rfl g5 0 [.bool ys, .slice YA yn yc, .slice YB ym yd, .bool yw] rfl rfl size_Num rfl b5' (Nat.le_refl _) rfl ?_
  intro w2 c2 q2
  have t5' := t5.kept q1 (Ne.symm hne)
  have fx1 := (hx1.1.kept q1 k4 t4 (by decide)).kept q2 k5 t5' (by decide)
  have fx2 := (hx2.1.kept q1 k4 t4 (by decide)).kept q2 k5 t5' (by decide)
  have fy1 := (hy1.1.kept q1 k4 t4 (by decide)).kept q2 k5 t5' (by decide)
  have fy2 := (hy2.1.kept q1 k4 t4 (by decide)).kept q2 k5 t5' (by decide)
  have HX : Hid (PairB wA.heap.size w2 (.agg #[.bool xs, .slice XA xn xc, .slice XB xm xd]) x K ∧ (xw = true → nv xr = 1)) := Lib.hid ⟨PairB.mk ⟨fx1, hx1.2⟩ ⟨fx2, hx2.2⟩ hx3.1 hx4, hx3.2⟩
  have HIX : Hid (IntB wA.heap.size w2 (.agg #[.bool xs, .slice XA xn xc]) (sgn xs (nv xl)) K) := Lib.hid (IntB.mk ⟨fx1, hx1.2⟩)
  have HDX : Hid (SlB wA.heap.size w2 (.slice XB xm xd) xr K) := Lib.hid ⟨_, _, _, rfl, fx2, hx2.2⟩
  have HIY : Hid (IntB wA.heap.size w2 (.agg #[.bool ys, .slice YA yn yc]) (sgn ys (nv yl)) M) := Lib.hid (IntB.mk ⟨fy1, hy1.2⟩)
  have HDY : Hid (SlB wA.heap.size w2 (.slice YB ym yd) yr M) := Lib.hid ⟨_, _, _, rfl, fy2, hy2.2⟩
  have HNX : Hid (IntB wA.heap.size w2 (.agg #[.bool false, .slice XB xm xd]) (nv xr) K) := Lib.hid (IntB.mk (ng := false) ⟨fx2, hx2.2⟩)
  have HNY : Hid (IntB wA.heap.size w2 (.agg #[.bool false, .slice YB ym yd]) (nv yr) M) := Lib.hid (IntB.mk (ng := false) ⟨fy2, hy2.2⟩)
  have HV : Hid (x = frac xs xl xr ∧ y = frac ys yl yr ∧ 0 < nv xr ∧ 0 < nv yr ∧ (xw = true → nv xr = 1) ∧ (yw = true → nv yr = 1)) := Lib.hid ⟨hx4, hy4, hx3.1, hy3.1, hx3.2, hy3.2⟩
  have HB : Hid (Below wA.heap.size wA w2) := Lib.hid (put_facts (put_facts hp k4 q1) k5 q2)
  have HG : Hid (Box w2 g4 [.bool xs, .slice XA xn xc, .slice XB xm xd, .bool xw] ∧ Box w2 g5 [.bool ys, .slice YA yn yc, .slice YB ym yd, .bool yw]) := Lib.hid ⟨c1.grown q2 (fun e => hne (by injection e)), c2⟩
  clear fx1 fx2 fy1 fy2 hx1 hx2 hx3 hx4 hy1 hy2 hy3 hy4 e1 e3 e4 e5 k4 k5 b4 b5 b5' t4 t5 t5' q1 q2 c1 c2 hne hne' hp CX CY
  have z0 : w2.cell? ⟨g4, 0, none⟩ = some (.bool xs) := HG.out.1.2.1 0
  have z1 : w2.cell? ⟨g4, 1, none⟩ = some (.slice XA xn xc) := HG.out.1.2.1 1
  have z2 : w2.cell? ⟨g4, 2, none⟩ = some (.slice XB xm xd) := HG.out.1.2.1 2
  have z3 : w2.cell? ⟨g4, 3, none⟩ = some (.bool xw) := HG.out.1.2.1 3
  have z4 : w2.cell? ⟨g5, 0, none⟩ = some (.bool ys) := HG.out.2.2.1 0
  have z5 : w2.cell? ⟨g5, 1, none⟩ = some (.slice YA yn yc) := HG.out.2.2.1 1
  have z6 : w2.cell? ⟨g5, 2, none⟩ = some (.slice YB ym yd) := HG.out.2.2.1 2
  have z7 : w2.cell? ⟨g5, 3, none⟩ = some (.bool yw) := HG.out.2.2.1 3
  obtain ⟨dI, hI1, hI2⟩ := row_Int
  have HI := Lib.hid (And.intro hI1 hI2)
  clear hI1 hI2
  by_cases hw : xw = true ∧ yw = true
  · obtain ⟨rfl, rfl⟩ := hw
    have CA : Hid (Calls Try.prog 94 #[.agg #[.bool xs, .slice XA xn xc], .agg #[.bool ys, .slice YA yn yc]] w2 (RetI w2 (sgn xs (nv xl) + sgn ys (nv yl)) (max K M + 1))) := Lib.hid (it_AddA _ _ _ _ K M _ _ w2 HIX.out HIY.out h9 h8)
    have CW : Hid (∀ v w5, IntO w2.heap.size w5 v (sgn xs (nv xl) + sgn ys (nv yl)) (K + M + 1) → w2.heap.size ≤ w5.heap.size → Calls Try.prog 88 #[v] w5 (RetQb w2.heap.size w5 ((sgn xs (nv xl) + sgn ys (nv yl) : Int) : Rat) (K + M + 1))) := Lib.hid fun v w5 h hb => rt_wholeQ _ _ _ _ w5 h hb (by omega)
    have HKM : Hid (max K M + 1 ≤ K + M + 1) := Lib.hid (by omega)
    go_wp2_with (first
      | ((with_reducible show wpList _ _ _ (Oper.mk (some 20) (.load 26 _) _ _ _ _ :: _) _ _); refine wp_ld rfl 26 _ rfl (g4) 0 rfl (HG.out.1) [.bool xs, .slice XA xn xc] (fun j v h => by rcases j with _ | _ | _ | j <;> simp at h ⊢ <;> exact h) dI HI.out.1 HI.out.2 size_Int ?_)
      | ((with_reducible show wpList _ _ _ (Oper.mk (some 23) (.load 26 _) _ _ _ _ :: _) _ _); refine wp_ld rfl 26 _ rfl (g5) 0 rfl (HG.out.2) [.bool ys, .slice YA yn yc] (fun j v h => by rcases j with _ | _ | _ | j <;> simp at h ⊢ <;> exact h) dI HI.out.1 HI.out.2 size_Int ?_)
      | (go_at_call 94; (with_reducible refine CA.out.mono ?_); rintro e3 w3 ⟨v3, rfl, hi, hb3⟩; have HO := Lib.hid (hi.le HKM.out); obtain ⟨pn, PA, pc, pl, rfl, -⟩ := hi; have HB3 := Lib.hid hb3; clear hb3)
      | (go_at_call 88; (with_reducible refine (CW.out _ _ HO.out HB3.out.size).mono ?_); rintro e5 w5 ⟨v5, rfl, hq, hb5⟩; have HQ := Lib.hid hq; obtain ⟨q2, A2', n2, c2, B2', m2, d2, rfl⟩ := hq.form; have HBE := Lib.hid (below_then HB3.out hb5); clear hq hb5)
      | ((with_reducible show wpList _ _ _ (Oper.mk none (.store 28 _ _) _ _ _ _ :: _) _ _); refine wp_st rfl 28 _ _ rfl (w.heap.size + 1 + 1) 0 [_, _, _] rfl rfl size_Rat rfl ((HA.out.2.2.2.keep HB.out).keep HBE.out) (Nat.le_refl _) rfl ?_; intro W9 c9 g9))
    have hb5 := below_then (below_then HA.out.1 HB.out) HBE.out
    have hW := put_facts (g := w.heap.size + 1 + 1) hb5 (by omega) g9
    have hq := (HQ.out.away g9 (Nat.lt_of_lt_of_le HA.out.2.2.2.1 HB.out.size)).base (b' := w.heap.size) (below_then HA.out.1 HB.out).size
    refine bodyPost_ret (resC rfl _ _ W9 (g := w.heap.size + 1 + 1) rfl (res_box 28 c9 dsR HR.out.1 HR.out.2 size_Rat)) rfl ?_
    refine ⟨_, rfl, ?_, hW⟩
    refine Eq.mp (congrArg (fun z => RatQ w.heap.size W9 _ z (K + M + 1)) ?_) hq
    rw [HV.out.1, HV.out.2.1]; exact frac_sum1 (HV.out.2.2.2.2.1 trivial) (HV.out.2.2.2.2.2 trivial)

  · have hw' : xw = false ∨ (xw = true ∧ yw = false) := by cases xw <;> cases yw <;> simp at hw ⊢
    clear hw
    rcases hw' with rfl | ⟨rfl, rfl⟩
    · obtain ⟨R, hR⟩ : ∃ R, cmpI (nv xr) (nv yr) = R := ⟨_, rfl⟩
      have CC : Hid (Calls Try.prog 95 #[.slice XB xm xd, .slice YB ym yd] w2 fun e w' => e = .returned (.int .i64 R) ∧ Below w2.heap.size w2 w') := Lib.hid (hR ▸ nt_CompareA _ _ xr yr K M _ _ w2 HDX.out HDY.out h9 h8)
      have HRC := Lib.hid hR
      clear hR
      by_cases hc : R = 0
      · subst hc
        have hc := HRC.out
        have HE := Lib.hid (cmpI_eq hc)
        clear hc
        go_upto_region 5 with (go_at_call 95; (with_reducible refine CC.out.mono ?_); rintro e3 w3 ⟨rfl, hb3⟩; have H3 := Lib.hid hb3; have y0 : w3.cell? ⟨g4, 0, none⟩ = some (.bool xs) := ((HG.out.1.keep hb3)).2.1 0; have y1 : w3.cell? ⟨g4, 1, none⟩ = some (.slice XA xn xc) := ((HG.out.1.keep hb3)).2.1 1; have y2 : w3.cell? ⟨g4, 2, none⟩ = some (.slice XB xm xd) := ((HG.out.1.keep hb3)).2.1 2; have y4 : w3.cell? ⟨g5, 0, none⟩ = some (.bool ys) := ((HG.out.2.keep hb3)).2.1 0; have y5 : w3.cell? ⟨g5, 1, none⟩ = some (.slice YA yn yc) := ((HG.out.2.keep hb3)).2.1 1; have y6 : w3.cell? ⟨g5, 2, none⟩ = some (.slice YB ym yd) := ((HG.out.2.keep hb3)).2.1 2; clear hb3)
        clear z0 z1 z2 z3 z4 z5 z6 z7
        have CL : Hid (∀ v1 w1 b, PairB b w1 v1 (frac xs xl xr + frac ys yl yr) (K + M + 1) → Calls Try.prog 90 #[v1] w1 (RetQ w1 (frac xs xl xr + frac ys yl yr) (K + M + 1))) := Lib.hid fun v1 w1 b h => rt_low v1 _ (K + M + 1) b w1 h (by omega)
        have CA : Hid (∀ w5, Below w3.heap.size w3 w5 → Calls Try.prog 94 #[.agg #[.bool xs, .slice XA xn xc], .agg #[.bool ys, .slice YA yn yc]] w5 (RetI w5 (sgn xs (nv xl) + sgn ys (nv yl)) (max K M + 1))) := Lib.hid fun w5 h => it_AddA _ _ _ _ K M _ _ w5 ((HIX.out.grow H3.out).grow h) ((HIY.out.grow H3.out).grow h) h9 h8
        have HBB : Hid (Below w2.heap.size w2 w3) := H3
        have HRX : Hid (DigB w3.heap.size w3 XB xr ∧ xr.length = xm ∧ xm ≤ xd ∧ xm ≤ K) := Lib.hid ((HDX.out.grow H3.out).more (Nat.le_trans HB.out.size H3.out.size)).row
        refine wp_region_grow7 (fun i => Nat.blt i 12) (fun _ => false) (fun w9 => Below w3.heap.size w3 w9) (gT [.v (.pointer (some ⟨g4, 0, none⟩)), .v (.pointer (some ⟨g4, 0, none⟩)), .v (.agg #[.bool xs, .slice XA xn xc]), .v (.pointer (some ⟨g5, 0, none⟩)), .v (.pointer (some ⟨g5, 0, none⟩)), .v (.agg #[.bool ys, .slice YA yn yc]), .int (sgn xs (nv xl) + sgn ys (nv yl)) (K + M + 1), .v (.pointer (some ⟨g4, 0, none⟩)), .v (.pointer (some ⟨g4, 2, none⟩)), .v (.slice XB xm xd), .pr (frac xs xl xr + frac ys yl yr) (K + M + 1), .rq (frac xs xl xr + frac ys yl yr) (K + M + 1)]) (fun a b => Below a.heap.size a b) (dT w3.heap.size [.v (.pointer (some ⟨g4, 0, none⟩)), .v (.pointer (some ⟨g4, 0, none⟩)), .v (.agg #[.bool xs, .slice XA xn xc]), .v (.pointer (some ⟨g5, 0, none⟩)), .v (.pointer (some ⟨g5, 0, none⟩)), .v (.agg #[.bool ys, .slice YA yn yc]), .int (sgn xs (nv xl) + sgn ys (nv yl)) (K + M + 1), .v (.pointer (some ⟨g4, 0, none⟩)), .v (.pointer (some ⟨g4, 2, none⟩)), .v (.slice XB xm xd), .pr (frac xs xl xr + frac ys yl yr) (K + M + 1), .rq (frac xs xl xr + frac ys yl yr) (K + M + 1)]) (by kernel_rfl) (by kernel_rfl) (Below.refl _ _).drew (fun j x a b h1 h2 => ⟨below_then h1 h2.1, fun i _ v => dT_keep h2.1 i v, Below.refl _ _, fun w0 h => below_then h h2.1⟩) (fun j v w h => by cases h) ?_ (fun j o _ _ h => by cases h) ?_
        · refine ⟨?_, ?_, ?_, ?_, ?_, ?_, ?_, ?_, ?_, ?_, ?_, ?_, trivial⟩
          all_goals
            intro vs w9 hp hF
            have HP := Lib.hid hp
            have y0 : w9.cell? ⟨g4, 0, none⟩ = some (.bool xs) := ((HG.out.1.keep H3.out).keep hp).2.1 0
            have y1 : w9.cell? ⟨g4, 1, none⟩ = some (.slice XA xn xc) := ((HG.out.1.keep H3.out).keep hp).2.1 1
            have y2 : w9.cell? ⟨g4, 2, none⟩ = some (.slice XB xm xd) := ((HG.out.1.keep H3.out).keep hp).2.1 2
            have y4 : w9.cell? ⟨g5, 0, none⟩ = some (.bool ys) := ((HG.out.2.keep H3.out).keep hp).2.1 0
            have y5 : w9.cell? ⟨g5, 1, none⟩ = some (.slice YA yn yc) := ((HG.out.2.keep H3.out).keep hp).2.1 1
            have y6 : w9.cell? ⟨g5, 2, none⟩ = some (.slice YB ym yd) := ((HG.out.2.keep H3.out).keep hp).2.1 2
            clear hp
            simp [depsB, Region.binds, dT] at hF
            simp [stL, depsB, Region.binds, Act.put, hF]
          · (go_wp2_with fail; exact ⟨rfl, Below.refl _ _, nbx rfl⟩)
          · (go_wp2_with fail; exact ⟨rfl, Below.refl _ _, nbx rfl⟩)
          · (obtain ⟨dI, hI1, hI2⟩ := row_Int; refine wp_ld rfl 26 _ rfl (g4) 0 rfl (((HG.out.1.keep H3.out).keep HP.out)) [.bool xs, .slice XA xn xc] (fun j v h => by rcases j with _ | _ | _ | _ | j <;> simp at h ⊢ <;> exact h) dI hI1 hI2 size_Int ?_; go_wp2_with fail; exact ⟨rfl, Below.refl _ _, nbx rfl⟩)
          · (go_wp2_with fail; exact ⟨rfl, Below.refl _ _, nbx rfl⟩)
          · (go_wp2_with fail; exact ⟨rfl, Below.refl _ _, nbx rfl⟩)
          · (obtain ⟨dI, hI1, hI2⟩ := row_Int; refine wp_ld rfl 26 _ rfl (g5) 0 rfl (((HG.out.2.keep H3.out).keep HP.out)) [.bool ys, .slice YA yn yc] (fun j v h => by rcases j with _ | _ | _ | _ | j <;> simp at h ⊢ <;> exact h) dI hI1 hI2 size_Int ?_; go_wp2_with fail; exact ⟨rfl, Below.refl _ _, nbx rfl⟩)
          · go_wp2_with (go_at_call 94; (with_reducible refine (CA.out _ HP.out).mono ?_); rintro e1 w1' ⟨v1, rfl, o1, hb1⟩)
            exact ⟨IntO.base (IntO.le o1 (by omega)) HP.out.size, hb1, nbx rfl⟩
          · (go_wp2_with fail; exact ⟨rfl, Below.refl _ _, nbx rfl⟩)
          · (go_wp2_with fail; exact ⟨rfl, Below.refl _ _, nbx rfl⟩)
          · (go_wp2_with fail; exact ⟨rfl, Below.refl _ _, nbx rfl⟩)
          · obtain ⟨⟨g6, A6, c6, l6, e6, h6⟩, e9⟩ := hF
            have h6' : IntO w3.heap.size w9 (.agg #[.bool g6, .slice A6 l6.length c6]) (sgn xs (nv xl) + sgn ys (nv yl)) (K + M + 1) := ⟨_, _, _, _, rfl, h6⟩
            obtain ⟨rl, hr4⟩ := h6'.nrm (b' := w3.heap.size)
            have HR4 := Lib.hid hr4
            clear h6 h6' hr4
            simp only [e6, e9]
            go_wp2_with fail
            exact ⟨PairB.mk (b := w3.heap.size) HR4.out.1 ⟨HRX.out.1.grow HP.out, HRX.out.2.1, HRX.out.2.2.1, by have := HRX.out.2.2.2; omega⟩ HV.out.2.2.1 (frac_sum2 HR4.out.2 HE.out), Below.refl _ _, nbx rfl⟩
          · obtain ⟨⟨p1, p2, p3, p4, p5, p6, p7, p8, p9, e8, hp8⟩, -⟩ := hF
            simp only [e8]
            have HP8 := Lib.hid hp8
            clear hp8
            go_wp2_with (go_at_call 90; (with_reducible refine (CL.out _ _ w3.heap.size (PairB.mk HP8.out.1 HP8.out.2.1 HP8.out.2.2.1 HP8.out.2.2.2)).mono ?_); rintro e1 w1' ⟨v1, rfl, hq, hb1⟩)
            exact ⟨hq.base HP.out.size, hb1, nbx rfl⟩
        intro vs w9 hp hF hpr
        have hq : RatQ w3.heap.size w9 (vs 11) (frac xs xl xr + frac ys yl yr) (K + M + 1) := hF 11 (by decide) rfl
        have HQ : Hid (RatQ w2.heap.size w9 (vs 11) (frac xs xl xr + frac ys yl yr) (K + M + 1)) := Lib.hid (hq.base HBB.out.size)
        obtain ⟨q2, A2', n2, c2, B2', m2, d2, e9⟩ := hq.form
        rw [e9] at HQ
        have HBE := Lib.hid (below_then HBB.out hp)
        clear hF hpr hq hp
        show wpList Try.prog _ _ [_] _ _
        simp [stL, Act.put, e9]
        refine wp_st rfl 28 _ _ rfl (w.heap.size + 1 + 1) 0 [_, _, _] rfl rfl size_Rat rfl ((HA.out.2.2.2.keep HB.out).keep HBE.out) (Nat.le_refl _) rfl ?_
        intro W9 c9 g9
        go_wp2_with fail
        have hb5 := below_then (below_then HA.out.1 HB.out) HBE.out
        have hW := put_facts (g := w.heap.size + 1 + 1) hb5 (by omega) g9
        have hq := (HQ.out.away g9 (Nat.lt_of_lt_of_le HA.out.2.2.2.1 HB.out.size)).base (b' := w.heap.size) (below_then HA.out.1 HB.out).size
        refine bodyPost_ret (resC rfl _ _ W9 (g := w.heap.size + 1 + 1) rfl (res_box 28 c9 dsR HR.out.1 HR.out.2 size_Rat)) rfl ?_
        refine ⟨_, rfl, ?_, hW⟩
        refine Eq.mp (congrArg (fun z => RatQ w.heap.size W9 _ z (K + M + 1)) ?_) hq
        rw [HV.out.1, HV.out.2.1]
      · go_upto_region 6 with (go_at_call 95; (with_reducible refine CC.out.mono ?_); rintro e3 w3 ⟨rfl, hb3⟩; have H3 := Lib.hid hb3; have y0 : w3.cell? ⟨g4, 0, none⟩ = some (.bool xs) := ((HG.out.1.keep hb3)).2.1 0; have y1 : w3.cell? ⟨g4, 1, none⟩ = some (.slice XA xn xc) := ((HG.out.1.keep hb3)).2.1 1; have y2 : w3.cell? ⟨g4, 2, none⟩ = some (.slice XB xm xd) := ((HG.out.1.keep hb3)).2.1 2; have y4 : w3.cell? ⟨g5, 0, none⟩ = some (.bool ys) := ((HG.out.2.keep hb3)).2.1 0; have y5 : w3.cell? ⟨g5, 1, none⟩ = some (.slice YA yn yc) := ((HG.out.2.keep hb3)).2.1 1; have y6 : w3.cell? ⟨g5, 2, none⟩ = some (.slice YB ym yd) := ((HG.out.2.keep hb3)).2.1 2; clear hb3)
        clear z0 z1 z2 z3 z4 z5 z6 z7
        have HKM : Hid (K + M ≤ 1000000) := Lib.hid (by omega)
        have CP : Hid (∀ w5, Below w3.heap.size w3 w5 → Calls Try.prog 87 #[.agg #[.bool xs, .slice XA xn xc], .agg #[.bool false, .slice YB ym yd]] w5 (RetI w5 (sgn xs (nv xl) * nv yr) (K + M))) := Lib.hid fun w5 h => it_MulA _ _ _ _ K M _ _ w5 ((HIX.out.grow H3.out).grow h) ((HNY.out.grow H3.out).grow h) h9 h8
        have CQ : Hid (∀ w5, Below w3.heap.size w3 w5 → Calls Try.prog 87 #[.agg #[.bool ys, .slice YA yn yc], .agg #[.bool false, .slice XB xm xd]] w5 (RetI w5 (sgn ys (nv yl) * nv xr) (K + M))) := Lib.hid fun w5 h => Nat.add_comm M K ▸ it_MulA _ _ _ _ M K _ _ w5 ((HIY.out.grow H3.out).grow h) ((HNX.out.grow H3.out).grow h) h8 h9
        refine wp_region_grow7 (fun i => Nat.blt i 18) (fun _ => false) (fun w9 => Below w3.heap.size w3 w9) (gT [.v (.pointer (some ⟨g4, 0, none⟩)), .v (.pointer (some ⟨g4, 0, none⟩)), .v (.agg #[.bool xs, .slice XA xn xc]), .v (.pointer (some ⟨g5, 0, none⟩)), .v (.pointer (some ⟨g5, 2, none⟩)), .v (.slice YB ym yd), .v (.agg #[.bool false, .slice YB ym yd]), .int (sgn xs (nv xl) * nv yr) (K + M), .v (.pointer (some ⟨g5, 0, none⟩)), .v (.pointer (some ⟨g5, 0, none⟩)), .v (.agg #[.bool ys, .slice YA yn yc]), .v (.pointer (some ⟨g4, 0, none⟩)), .v (.pointer (some ⟨g4, 2, none⟩)), .v (.slice XB xm xd), .v (.agg #[.bool false, .slice XB xm xd]), .int (sgn ys (nv yl) * nv xr) (K + M), .int (sgn xs (nv xl) * nv yr + sgn ys (nv yl) * nv xr) (K + M + 1), .box 26 [.bool false, .slice none 0 0]]) (fun a b => Below a.heap.size a b) (dT w3.heap.size [.v (.pointer (some ⟨g4, 0, none⟩)), .v (.pointer (some ⟨g4, 0, none⟩)), .v (.agg #[.bool xs, .slice XA xn xc]), .v (.pointer (some ⟨g5, 0, none⟩)), .v (.pointer (some ⟨g5, 2, none⟩)), .v (.slice YB ym yd), .v (.agg #[.bool false, .slice YB ym yd]), .int (sgn xs (nv xl) * nv yr) (K + M), .v (.pointer (some ⟨g5, 0, none⟩)), .v (.pointer (some ⟨g5, 0, none⟩)), .v (.agg #[.bool ys, .slice YA yn yc]), .v (.pointer (some ⟨g4, 0, none⟩)), .v (.pointer (some ⟨g4, 2, none⟩)), .v (.slice XB xm xd), .v (.agg #[.bool false, .slice XB xm xd]), .int (sgn ys (nv yl) * nv xr) (K + M), .int (sgn xs (nv xl) * nv yr + sgn ys (nv yl) * nv xr) (K + M + 1), .box 26 [.bool false, .slice none 0 0]]) (by kernel_rfl) (by kernel_rfl) (Below.refl _ _).drew (fun j x a b h1 h2 => ⟨below_then h1 h2.1, fun i _ v => dT_keep h2.1 i v, Below.refl _ _, fun w0 h => below_then h h2.1⟩) (fun j v w h => by cases h) ?_ (fun j o _ _ h => by cases h) ?_
        · refine ⟨?_, ?_, ?_, ?_, ?_, ?_, ?_, ?_, ?_, ?_, ?_, ?_, ?_, ?_, ?_, ?_, ?_, ?_, trivial⟩
          all_goals
            intro vs w9 hp hF
            have HP := Lib.hid hp
            have y0 : w9.cell? ⟨g4, 0, none⟩ = some (.bool xs) := ((HG.out.1.keep H3.out).keep hp).2.1 0
            have y1 : w9.cell? ⟨g4, 1, none⟩ = some (.slice XA xn xc) := ((HG.out.1.keep H3.out).keep hp).2.1 1
            have y2 : w9.cell? ⟨g4, 2, none⟩ = some (.slice XB xm xd) := ((HG.out.1.keep H3.out).keep hp).2.1 2
            have y4 : w9.cell? ⟨g5, 0, none⟩ = some (.bool ys) := ((HG.out.2.keep H3.out).keep hp).2.1 0
            have y5 : w9.cell? ⟨g5, 1, none⟩ = some (.slice YA yn yc) := ((HG.out.2.keep H3.out).keep hp).2.1 1
            have y6 : w9.cell? ⟨g5, 2, none⟩ = some (.slice YB ym yd) := ((HG.out.2.keep H3.out).keep hp).2.1 2
            clear hp
            simp [depsB, Region.binds, dT] at hF
            simp [stL, depsB, Region.binds, Act.put, hF]
          · (go_wp2_with fail; exact ⟨rfl, Below.refl _ _, nbx rfl⟩)
          · (go_wp2_with fail; exact ⟨rfl, Below.refl _ _, nbx rfl⟩)
          · (obtain ⟨dI, hI1, hI2⟩ := row_Int; refine wp_ld rfl 26 _ rfl (g4) 0 rfl (((HG.out.1.keep H3.out).keep HP.out)) [.bool xs, .slice XA xn xc] (fun j v h => by rcases j with _ | _ | _ | _ | j <;> simp at h ⊢ <;> exact h) dI hI1 hI2 size_Int ?_; go_wp2_with fail; exact ⟨rfl, Below.refl _ _, nbx rfl⟩)
          · (go_wp2_with fail; exact ⟨rfl, Below.refl _ _, nbx rfl⟩)
          · (go_wp2_with fail; exact ⟨rfl, Below.refl _ _, nbx rfl⟩)
          · (go_wp2_with fail; exact ⟨rfl, Below.refl _ _, nbx rfl⟩)
          · go_wp2_with (go_at_call 93; (with_reducible refine (rt_natural _ _ _ _).mono ?_); rintro e1 w1' ⟨rfl, hb1⟩)
            exact ⟨rfl, hb1, nbx rfl⟩
          · go_wp2_with (go_at_call 87; (with_reducible refine (CP.out _ HP.out).mono ?_); rintro e1 w1' ⟨v1, rfl, o1, hb1⟩)
            exact ⟨IntO.base o1 HP.out.size, hb1, nbx rfl⟩
          · (go_wp2_with fail; exact ⟨rfl, Below.refl _ _, nbx rfl⟩)
          · (go_wp2_with fail; exact ⟨rfl, Below.refl _ _, nbx rfl⟩)
          · (obtain ⟨dI, hI1, hI2⟩ := row_Int; refine wp_ld rfl 26 _ rfl (g5) 0 rfl (((HG.out.2.keep H3.out).keep HP.out)) [.bool ys, .slice YA yn yc] (fun j v h => by rcases j with _ | _ | _ | _ | j <;> simp at h ⊢ <;> exact h) dI hI1 hI2 size_Int ?_; go_wp2_with fail; exact ⟨rfl, Below.refl _ _, nbx rfl⟩)
          · (go_wp2_with fail; exact ⟨rfl, Below.refl _ _, nbx rfl⟩)
          · (go_wp2_with fail; exact ⟨rfl, Below.refl _ _, nbx rfl⟩)
          · (go_wp2_with fail; exact ⟨rfl, Below.refl _ _, nbx rfl⟩)
          · go_wp2_with (go_at_call 93; (with_reducible refine (rt_natural _ _ _ _).mono ?_); rintro e1 w1' ⟨rfl, hb1⟩)
            exact ⟨rfl, hb1, nbx rfl⟩
          · go_wp2_with (go_at_call 87; (with_reducible refine (CQ.out _ HP.out).mono ?_); rintro e1 w1' ⟨v1, rfl, o1, hb1⟩)
            exact ⟨IntO.base o1 HP.out.size, hb1, nbx rfl⟩
          · obtain ⟨⟨g6, A6, c6, l6, e6, h6⟩, ⟨g7, A7, c7, l7, e7, h7⟩⟩ := hF
            have h6' : Hid (IntO w3.heap.size w9 (.agg #[.bool g6, .slice A6 l6.length c6]) (sgn xs (nv xl) * nv yr) (K + M)) := Lib.hid ⟨_, _, _, _, rfl, h6⟩
            have h7' : Hid (IntO w3.heap.size w9 (.agg #[.bool g7, .slice A7 l7.length c7]) (sgn ys (nv yl) * nv xr) (K + M)) := Lib.hid ⟨_, _, _, _, rfl, h7⟩
            clear h6 h7
            simp only [e6, e7]
            go_wp2_with (go_at_call 94; (with_reducible refine (it_AddA _ _ _ _ (K + M) (K + M) w3.heap.size w3.heap.size _ h6'.out.intB h7'.out.intB HKM.out HKM.out).mono ?_); rintro e1 w1' ⟨v1, rfl, o1, hb1⟩)
            exact ⟨IntO.base (IntO.le o1 (by omega)) HP.out.size, hb1, nbx rfl⟩
          · (go_wp2_with fail; exact ⟨BoxO.new HP.out.size, (Below.refl _ _).alloc (Nat.le_refl _) _, fun _ => rfl⟩)
        intro vs w9 hp hF hpr
        obtain ⟨pn, PA, pc, pl, e16, hi⟩ : IntO w3.heap.size w9 (vs 16) (sgn xs (nv xl) * nv yr + sgn ys (nv yl) * nv xr) (K + M + 1) := hF 16 (by decide) rfl
        have hi' : IntO w3.heap.size w9 (.agg #[.bool pn, .slice PA pl.length pc]) (sgn xs (nv xl) * nv yr + sgn ys (nv yl) * nv xr) (K + M + 1) := ⟨_, _, _, _, rfl, hi⟩
        obtain ⟨g7, e17, k7, b7, t7⟩ : BoxO w3.heap.size w9 (vs 17) 26 [.bool false, .slice none 0 0] := hF 17 (by decide) rfl
        obtain ⟨rl, hr4⟩ := hi'.nrm (b' := w3.heap.size)
        clear hF hpr hi hi'
        show wpList Try.prog _ _ [_] _ _
        simp [stL, Act.put, e16, e17]
        refine wp_st rfl 26 _ _ rfl g7 0 [.bool pn, .slice PA pl.length pc] rfl rfl size_Int rfl b7 (Nat.le_refl _) rfl ?_
        intro w4 c4 q4
        have HR4 : Hid ((DigB w3.heap.size w4 PA rl ∧ rl.length = pl.length ∧ pl.length ≤ pc ∧ pl.length ≤ K + M + 1) ∧ sgn pn (nv rl) = sgn xs (nv xl) * nv yr + sgn ys (nv yl) * nv xr) := Lib.hid ⟨⟨hr4.1.1.kept q4 k7 t7 (by decide), hr4.1.2⟩, hr4.2⟩
        have H4 : Hid (Below w3.heap.size w3 w4) := Lib.hid (put_facts hp k7 q4)
        have HPB : Hid (Box w4 g7 [.bool pn, .slice PA pl.length pc]) := Lib.hid c4
        have HBB := Lib.hid (below_then H3.out H4.out)
        clear hr4 e16 e17 k7 b7 t7 q4 c4 hp y0 y1 y2 y4 y5 y6
        have z2 : w4.cell? ⟨g4, 2, none⟩ = some (.slice XB xm xd) := ((HG.out.1.keep H3.out).keep H4.out).2.1 2
        have z6 : w4.cell? ⟨g5, 2, none⟩ = some (.slice YB ym yd) := ((HG.out.2.keep H3.out).keep H4.out).2.1 2
        have CN : Hid (∀ w5, Below w4.heap.size w4 w5 → Calls Try.prog 89 #[.slice XB xm xd, .slice YB ym yd] w5 (RetN w5 (nv xr * nv yr) (K + M))) := Lib.hid fun w5 h => nt_MulA _ _ xr yr K M _ _ w5 ((HDX.out.grow HBB.out).grow h) ((HDY.out.grow HBB.out).grow h) h9 h8
        clear CP CQ
        go_upto_region 7 with fail
        have CL : Hid (∀ v1 w1 b, PairB b w1 v1 (frac xs xl xr + frac ys yl yr) (K + M + 1) → Calls Try.prog 90 #[v1] w1 (RetQ w1 (frac xs xl xr + frac ys yl yr) (K + M + 1))) := Lib.hid fun v1 w1 b h => rt_low v1 _ (K + M + 1) b w1 h (by omega)
        refine wp_region_grow7 (fun i => Nat.blt i 10) (fun _ => false) (fun w9 => Below w4.heap.size w4 w9) (gT [.v (.agg #[.bool pn, .slice PA pl.length pc]), .v (.pointer (some ⟨g4, 0, none⟩)), .v (.pointer (some ⟨g4, 2, none⟩)), .v (.slice XB xm xd), .v (.pointer (some ⟨g5, 0, none⟩)), .v (.pointer (some ⟨g5, 2, none⟩)), .v (.slice YB ym yd), .num (nv xr * nv yr) (K + M), .pr (frac xs xl xr + frac ys yl yr) (K + M + 1), .rq (frac xs xl xr + frac ys yl yr) (K + M + 1)]) (fun a b => Below a.heap.size a b) (dT w4.heap.size [.v (.agg #[.bool pn, .slice PA pl.length pc]), .v (.pointer (some ⟨g4, 0, none⟩)), .v (.pointer (some ⟨g4, 2, none⟩)), .v (.slice XB xm xd), .v (.pointer (some ⟨g5, 0, none⟩)), .v (.pointer (some ⟨g5, 2, none⟩)), .v (.slice YB ym yd), .num (nv xr * nv yr) (K + M), .pr (frac xs xl xr + frac ys yl yr) (K + M + 1), .rq (frac xs xl xr + frac ys yl yr) (K + M + 1)]) (by kernel_rfl) (by kernel_rfl) (Below.refl _ _).drew (fun j x a b h1 h2 => ⟨below_then h1 h2.1, fun i _ v => dT_keep h2.1 i v, Below.refl _ _, fun w0 h => below_then h h2.1⟩) (fun j v w h => by cases h) ?_ (fun j o _ _ h => by cases h) ?_
        · refine ⟨?_, ?_, ?_, ?_, ?_, ?_, ?_, ?_, ?_, ?_, trivial⟩
          all_goals
            intro vs w9 hp hF
            have HP := Lib.hid hp
            have y2 : w9.cell? ⟨g4, 2, none⟩ = some (.slice XB xm xd) := (((HG.out.1.keep HBB.out).keep hp)).2.1 2
            have y6 : w9.cell? ⟨g5, 2, none⟩ = some (.slice YB ym yd) := (((HG.out.2.keep HBB.out).keep hp)).2.1 2
            clear hp
            simp [depsB, Region.binds, dT] at hF
            simp [stL, depsB, Region.binds, Act.put, hF]
          · (obtain ⟨dI, hI1, hI2⟩ := row_Int; refine wp_ld rfl 26 _ rfl (g7) 0 rfl (HPB.out.keep HP.out) [.bool pn, .slice PA pl.length pc] (fun j v h => by rcases j with _ | _ | _ | _ | j <;> simp at h ⊢ <;> exact h) dI hI1 hI2 size_Int ?_; go_wp2_with fail; exact ⟨rfl, Below.refl _ _, nbx rfl⟩)
          · (go_wp2_with fail; exact ⟨rfl, Below.refl _ _, nbx rfl⟩)
          · (go_wp2_with fail; exact ⟨rfl, Below.refl _ _, nbx rfl⟩)
          · (go_wp2_with fail; exact ⟨rfl, Below.refl _ _, nbx rfl⟩)
          · (go_wp2_with fail; exact ⟨rfl, Below.refl _ _, nbx rfl⟩)
          · (go_wp2_with fail; exact ⟨rfl, Below.refl _ _, nbx rfl⟩)
          · (go_wp2_with fail; exact ⟨rfl, Below.refl _ _, nbx rfl⟩)
          · go_wp2_with (go_at_call 89; (with_reducible refine (CN.out _ HP.out).mono ?_); intro e1 w1' h1; obtain ⟨v1, rfl, o1, hb1⟩ := h1.num (b := w4.heap.size) HP.out.size)
            exact ⟨o1, hb1, nbx rfl⟩
          · obtain ⟨e0, A', c', l', e7, o7, n7, m7, k7⟩ := hF
            have HN7 := Lib.hid n7
            clear n7
            simp only [e0, e7]
            go_wp2_with fail
            exact ⟨PairB.mk (b := w4.heap.size) ⟨(HR4.out.1.1.more H4.out.size).grow HP.out, HR4.out.1.2⟩ ⟨o7.digB, rfl, o7.len.2, by omega⟩ (by rw [HN7.out]; exact Int.mul_pos HV.out.2.2.1 HV.out.2.2.2.1) (frac_sump HR4.out.2 HN7.out HV.out.2.2.1 HV.out.2.2.2.1), Below.refl _ _, nbx rfl⟩
          · obtain ⟨⟨p1, p2, p3, p4, p5, p6, p7, p8, p9, e8, hp8⟩, -⟩ := hF
            simp only [e8]
            have HP8 := Lib.hid hp8
            clear hp8
            go_wp2_with (go_at_call 90; (with_reducible refine (CL.out _ _ w4.heap.size (PairB.mk HP8.out.1 HP8.out.2.1 HP8.out.2.2.1 HP8.out.2.2.2)).mono ?_); rintro e1 w1' ⟨v1, rfl, hq, hb1⟩)
            exact ⟨hq.base HP.out.size, hb1, nbx rfl⟩
        intro vs w9 hp hF hpr
        have hq : RatQ w4.heap.size w9 (vs 9) (frac xs xl xr + frac ys yl yr) (K + M + 1) := hF 9 (by decide) rfl
        have HQ : Hid (RatQ w2.heap.size w9 (vs 9) (frac xs xl xr + frac ys yl yr) (K + M + 1)) := Lib.hid (hq.base HBB.out.size)
        obtain ⟨q2, A2', n2, c2, B2', m2, d2, e9⟩ := hq.form
        rw [e9] at HQ
        have HBE := Lib.hid (below_then HBB.out hp)
        clear hF hpr hq hp
        show wpList Try.prog _ _ [_] _ _
        simp [stL, Act.put, e9]
        refine wp_st rfl 28 _ _ rfl (w.heap.size + 1 + 1) 0 [_, _, _] rfl rfl size_Rat rfl ((HA.out.2.2.2.keep HB.out).keep HBE.out) (Nat.le_refl _) rfl ?_
        intro W9 c9 g9
        go_wp2_with fail
        have hb5 := below_then (below_then HA.out.1 HB.out) HBE.out
        have hW := put_facts (g := w.heap.size + 1 + 1) hb5 (by omega) g9
        have hq := (HQ.out.away g9 (Nat.lt_of_lt_of_le HA.out.2.2.2.1 HB.out.size)).base (b' := w.heap.size) (below_then HA.out.1 HB.out).size
        refine bodyPost_ret (resC rfl _ _ W9 (g := w.heap.size + 1 + 1) rfl (res_box 28 c9 dsR HR.out.1 HR.out.2 size_Rat)) rfl ?_
        refine ⟨_, rfl, ?_, hW⟩
        refine Eq.mp (congrArg (fun z => RatQ w.heap.size W9 _ z (K + M + 1)) ?_) hq
        rw [HV.out.1, HV.out.2.1]
    · obtain ⟨R, hR⟩ : ∃ R, cmpI (nv xr) (nv yr) = R := ⟨_, rfl⟩
      have CC : Hid (Calls Try.prog 95 #[.slice XB xm xd, .slice YB ym yd] w2 fun e w' => e = .returned (.int .i64 R) ∧ Below w2.heap.size w2 w') := Lib.hid (hR ▸ nt_CompareA _ _ xr yr K M _ _ w2 HDX.out HDY.out h9 h8)
      have HRC := Lib.hid hR
      clear hR
      by_cases hc : R = 0
      · subst hc
        have hc := HRC.out
        have HE := Lib.hid (cmpI_eq hc)
        clear hc
        go_upto_region 5 with (go_at_call 95; (with_reducible refine CC.out.mono ?_); rintro e3 w3 ⟨rfl, hb3⟩; have H3 := Lib.hid hb3; have y0 : w3.cell? ⟨g4, 0, none⟩ = some (.bool xs) := ((HG.out.1.keep hb3)).2.1 0; have y1 : w3.cell? ⟨g4, 1, none⟩ = some (.slice XA xn xc) := ((HG.out.1.keep hb3)).2.1 1; have y2 : w3.cell? ⟨g4, 2, none⟩ = some (.slice XB xm xd) := ((HG.out.1.keep hb3)).2.1 2; have y4 : w3.cell? ⟨g5, 0, none⟩ = some (.bool ys) := ((HG.out.2.keep hb3)).2.1 0; have y5 : w3.cell? ⟨g5, 1, none⟩ = some (.slice YA yn yc) := ((HG.out.2.keep hb3)).2.1 1; have y6 : w3.cell? ⟨g5, 2, none⟩ = some (.slice YB ym yd) := ((HG.out.2.keep hb3)).2.1 2; clear hb3)
        clear z0 z1 z2 z3 z4 z5 z6 z7
        have CL : Hid (∀ v1 w1 b, PairB b w1 v1 (frac xs xl xr + frac ys yl yr) (K + M + 1) → Calls Try.prog 90 #[v1] w1 (RetQ w1 (frac xs xl xr + frac ys yl yr) (K + M + 1))) := Lib.hid fun v1 w1 b h => rt_low v1 _ (K + M + 1) b w1 h (by omega)
        have CA : Hid (∀ w5, Below w3.heap.size w3 w5 → Calls Try.prog 94 #[.agg #[.bool xs, .slice XA xn xc], .agg #[.bool ys, .slice YA yn yc]] w5 (RetI w5 (sgn xs (nv xl) + sgn ys (nv yl)) (max K M + 1))) := Lib.hid fun w5 h => it_AddA _ _ _ _ K M _ _ w5 ((HIX.out.grow H3.out).grow h) ((HIY.out.grow H3.out).grow h) h9 h8
        have HBB : Hid (Below w2.heap.size w2 w3) := H3
        have HRX : Hid (DigB w3.heap.size w3 XB xr ∧ xr.length = xm ∧ xm ≤ xd ∧ xm ≤ K) := Lib.hid ((HDX.out.grow H3.out).more (Nat.le_trans HB.out.size H3.out.size)).row
        refine wp_region_grow7 (fun i => Nat.blt i 12) (fun _ => false) (fun w9 => Below w3.heap.size w3 w9) (gT [.v (.pointer (some ⟨g4, 0, none⟩)), .v (.pointer (some ⟨g4, 0, none⟩)), .v (.agg #[.bool xs, .slice XA xn xc]), .v (.pointer (some ⟨g5, 0, none⟩)), .v (.pointer (some ⟨g5, 0, none⟩)), .v (.agg #[.bool ys, .slice YA yn yc]), .int (sgn xs (nv xl) + sgn ys (nv yl)) (K + M + 1), .v (.pointer (some ⟨g4, 0, none⟩)), .v (.pointer (some ⟨g4, 2, none⟩)), .v (.slice XB xm xd), .pr (frac xs xl xr + frac ys yl yr) (K + M + 1), .rq (frac xs xl xr + frac ys yl yr) (K + M + 1)]) (fun a b => Below a.heap.size a b) (dT w3.heap.size [.v (.pointer (some ⟨g4, 0, none⟩)), .v (.pointer (some ⟨g4, 0, none⟩)), .v (.agg #[.bool xs, .slice XA xn xc]), .v (.pointer (some ⟨g5, 0, none⟩)), .v (.pointer (some ⟨g5, 0, none⟩)), .v (.agg #[.bool ys, .slice YA yn yc]), .int (sgn xs (nv xl) + sgn ys (nv yl)) (K + M + 1), .v (.pointer (some ⟨g4, 0, none⟩)), .v (.pointer (some ⟨g4, 2, none⟩)), .v (.slice XB xm xd), .pr (frac xs xl xr + frac ys yl yr) (K + M + 1), .rq (frac xs xl xr + frac ys yl yr) (K + M + 1)]) (by kernel_rfl) (by kernel_rfl) (Below.refl _ _).drew (fun j x a b h1 h2 => ⟨below_then h1 h2.1, fun i _ v => dT_keep h2.1 i v, Below.refl _ _, fun w0 h => below_then h h2.1⟩) (fun j v w h => by cases h) ?_ (fun j o _ _ h => by cases h) ?_
        · refine ⟨?_, ?_, ?_, ?_, ?_, ?_, ?_, ?_, ?_, ?_, ?_, ?_, trivial⟩
          all_goals
            intro vs w9 hp hF
            have HP := Lib.hid hp
            have y0 : w9.cell? ⟨g4, 0, none⟩ = some (.bool xs) := ((HG.out.1.keep H3.out).keep hp).2.1 0
            have y1 : w9.cell? ⟨g4, 1, none⟩ = some (.slice XA xn xc) := ((HG.out.1.keep H3.out).keep hp).2.1 1
            have y2 : w9.cell? ⟨g4, 2, none⟩ = some (.slice XB xm xd) := ((HG.out.1.keep H3.out).keep hp).2.1 2
            have y4 : w9.cell? ⟨g5, 0, none⟩ = some (.bool ys) := ((HG.out.2.keep H3.out).keep hp).2.1 0
            have y5 : w9.cell? ⟨g5, 1, none⟩ = some (.slice YA yn yc) := ((HG.out.2.keep H3.out).keep hp).2.1 1
            have y6 : w9.cell? ⟨g5, 2, none⟩ = some (.slice YB ym yd) := ((HG.out.2.keep H3.out).keep hp).2.1 2
            clear hp
            simp [depsB, Region.binds, dT] at hF
            simp [stL, depsB, Region.binds, Act.put, hF]
          · (go_wp2_with fail; exact ⟨rfl, Below.refl _ _, nbx rfl⟩)
          · (go_wp2_with fail; exact ⟨rfl, Below.refl _ _, nbx rfl⟩)
          · (obtain ⟨dI, hI1, hI2⟩ := row_Int; refine wp_ld rfl 26 _ rfl (g4) 0 rfl (((HG.out.1.keep H3.out).keep HP.out)) [.bool xs, .slice XA xn xc] (fun j v h => by rcases j with _ | _ | _ | _ | j <;> simp at h ⊢ <;> exact h) dI hI1 hI2 size_Int ?_; go_wp2_with fail; exact ⟨rfl, Below.refl _ _, nbx rfl⟩)
          · (go_wp2_with fail; exact ⟨rfl, Below.refl _ _, nbx rfl⟩)
          · (go_wp2_with fail; exact ⟨rfl, Below.refl _ _, nbx rfl⟩)
          · (obtain ⟨dI, hI1, hI2⟩ := row_Int; refine wp_ld rfl 26 _ rfl (g5) 0 rfl (((HG.out.2.keep H3.out).keep HP.out)) [.bool ys, .slice YA yn yc] (fun j v h => by rcases j with _ | _ | _ | _ | j <;> simp at h ⊢ <;> exact h) dI hI1 hI2 size_Int ?_; go_wp2_with fail; exact ⟨rfl, Below.refl _ _, nbx rfl⟩)
          · go_wp2_with (go_at_call 94; (with_reducible refine (CA.out _ HP.out).mono ?_); rintro e1 w1' ⟨v1, rfl, o1, hb1⟩)
            exact ⟨IntO.base (IntO.le o1 (by omega)) HP.out.size, hb1, nbx rfl⟩
          · (go_wp2_with fail; exact ⟨rfl, Below.refl _ _, nbx rfl⟩)
          · (go_wp2_with fail; exact ⟨rfl, Below.refl _ _, nbx rfl⟩)
          · (go_wp2_with fail; exact ⟨rfl, Below.refl _ _, nbx rfl⟩)
          · obtain ⟨⟨g6, A6, c6, l6, e6, h6⟩, e9⟩ := hF
            have h6' : IntO w3.heap.size w9 (.agg #[.bool g6, .slice A6 l6.length c6]) (sgn xs (nv xl) + sgn ys (nv yl)) (K + M + 1) := ⟨_, _, _, _, rfl, h6⟩
            obtain ⟨rl, hr4⟩ := h6'.nrm (b' := w3.heap.size)
            have HR4 := Lib.hid hr4
            clear h6 h6' hr4
            simp only [e6, e9]
            go_wp2_with fail
            exact ⟨PairB.mk (b := w3.heap.size) HR4.out.1 ⟨HRX.out.1.grow HP.out, HRX.out.2.1, HRX.out.2.2.1, by have := HRX.out.2.2.2; omega⟩ HV.out.2.2.1 (frac_sum2 HR4.out.2 HE.out), Below.refl _ _, nbx rfl⟩
          · obtain ⟨⟨p1, p2, p3, p4, p5, p6, p7, p8, p9, e8, hp8⟩, -⟩ := hF
            simp only [e8]
            have HP8 := Lib.hid hp8
            clear hp8
            go_wp2_with (go_at_call 90; (with_reducible refine (CL.out _ _ w3.heap.size (PairB.mk HP8.out.1 HP8.out.2.1 HP8.out.2.2.1 HP8.out.2.2.2)).mono ?_); rintro e1 w1' ⟨v1, rfl, hq, hb1⟩)
            exact ⟨hq.base HP.out.size, hb1, nbx rfl⟩
        intro vs w9 hp hF hpr
        have hq : RatQ w3.heap.size w9 (vs 11) (frac xs xl xr + frac ys yl yr) (K + M + 1) := hF 11 (by decide) rfl
        have HQ : Hid (RatQ w2.heap.size w9 (vs 11) (frac xs xl xr + frac ys yl yr) (K + M + 1)) := Lib.hid (hq.base HBB.out.size)
        obtain ⟨q2, A2', n2, c2, B2', m2, d2, e9⟩ := hq.form
        rw [e9] at HQ
        have HBE := Lib.hid (below_then HBB.out hp)
        clear hF hpr hq hp
        show wpList Try.prog _ _ [_] _ _
        simp [stL, Act.put, e9]
        refine wp_st rfl 28 _ _ rfl (w.heap.size + 1 + 1) 0 [_, _, _] rfl rfl size_Rat rfl ((HA.out.2.2.2.keep HB.out).keep HBE.out) (Nat.le_refl _) rfl ?_
        intro W9 c9 g9
        go_wp2_with fail
        have hb5 := below_then (below_then HA.out.1 HB.out) HBE.out
        have hW := put_facts (g := w.heap.size + 1 + 1) hb5 (by omega) g9
        have hq := (HQ.out.away g9 (Nat.lt_of_lt_of_le HA.out.2.2.2.1 HB.out.size)).base (b' := w.heap.size) (below_then HA.out.1 HB.out).size
        refine bodyPost_ret (resC rfl _ _ W9 (g := w.heap.size + 1 + 1) rfl (res_box 28 c9 dsR HR.out.1 HR.out.2 size_Rat)) rfl ?_
        refine ⟨_, rfl, ?_, hW⟩
        refine Eq.mp (congrArg (fun z => RatQ w.heap.size W9 _ z (K + M + 1)) ?_) hq
        rw [HV.out.1, HV.out.2.1]
      · go_upto_region 6 with (go_at_call 95; (with_reducible refine CC.out.mono ?_); rintro e3 w3 ⟨rfl, hb3⟩; have H3 := Lib.hid hb3; have y0 : w3.cell? ⟨g4, 0, none⟩ = some (.bool xs) := ((HG.out.1.keep hb3)).2.1 0; have y1 : w3.cell? ⟨g4, 1, none⟩ = some (.slice XA xn xc) := ((HG.out.1.keep hb3)).2.1 1; have y2 : w3.cell? ⟨g4, 2, none⟩ = some (.slice XB xm xd) := ((HG.out.1.keep hb3)).2.1 2; have y4 : w3.cell? ⟨g5, 0, none⟩ = some (.bool ys) := ((HG.out.2.keep hb3)).2.1 0; have y5 : w3.cell? ⟨g5, 1, none⟩ = some (.slice YA yn yc) := ((HG.out.2.keep hb3)).2.1 1; have y6 : w3.cell? ⟨g5, 2, none⟩ = some (.slice YB ym yd) := ((HG.out.2.keep hb3)).2.1 2; clear hb3)
        clear z0 z1 z2 z3 z4 z5 z6 z7
        have HKM : Hid (K + M ≤ 1000000) := Lib.hid (by omega)
        have CP : Hid (∀ w5, Below w3.heap.size w3 w5 → Calls Try.prog 87 #[.agg #[.bool xs, .slice XA xn xc], .agg #[.bool false, .slice YB ym yd]] w5 (RetI w5 (sgn xs (nv xl) * nv yr) (K + M))) := Lib.hid fun w5 h => it_MulA _ _ _ _ K M _ _ w5 ((HIX.out.grow H3.out).grow h) ((HNY.out.grow H3.out).grow h) h9 h8
        have CQ : Hid (∀ w5, Below w3.heap.size w3 w5 → Calls Try.prog 87 #[.agg #[.bool ys, .slice YA yn yc], .agg #[.bool false, .slice XB xm xd]] w5 (RetI w5 (sgn ys (nv yl) * nv xr) (K + M))) := Lib.hid fun w5 h => Nat.add_comm M K ▸ it_MulA _ _ _ _ M K _ _ w5 ((HIY.out.grow H3.out).grow h) ((HNX.out.grow H3.out).grow h) h8 h9
        refine wp_region_grow7 (fun i => Nat.blt i 18) (fun _ => false) (fun w9 => Below w3.heap.size w3 w9) (gT [.v (.pointer (some ⟨g4, 0, none⟩)), .v (.pointer (some ⟨g4, 0, none⟩)), .v (.agg #[.bool xs, .slice XA xn xc]), .v (.pointer (some ⟨g5, 0, none⟩)), .v (.pointer (some ⟨g5, 2, none⟩)), .v (.slice YB ym yd), .v (.agg #[.bool false, .slice YB ym yd]), .int (sgn xs (nv xl) * nv yr) (K + M), .v (.pointer (some ⟨g5, 0, none⟩)), .v (.pointer (some ⟨g5, 0, none⟩)), .v (.agg #[.bool ys, .slice YA yn yc]), .v (.pointer (some ⟨g4, 0, none⟩)), .v (.pointer (some ⟨g4, 2, none⟩)), .v (.slice XB xm xd), .v (.agg #[.bool false, .slice XB xm xd]), .int (sgn ys (nv yl) * nv xr) (K + M), .int (sgn xs (nv xl) * nv yr + sgn ys (nv yl) * nv xr) (K + M + 1), .box 26 [.bool false, .slice none 0 0]]) (fun a b => Below a.heap.size a b) (dT w3.heap.size [.v (.pointer (some ⟨g4, 0, none⟩)), .v (.pointer (some ⟨g4, 0, none⟩)), .v (.agg #[.bool xs, .slice XA xn xc]), .v (.pointer (some ⟨g5, 0, none⟩)), .v (.pointer (some ⟨g5, 2, none⟩)), .v (.slice YB ym yd), .v (.agg #[.bool false, .slice YB ym yd]), .int (sgn xs (nv xl) * nv yr) (K + M), .v (.pointer (some ⟨g5, 0, none⟩)), .v (.pointer (some ⟨g5, 0, none⟩)), .v (.agg #[.bool ys, .slice YA yn yc]), .v (.pointer (some ⟨g4, 0, none⟩)), .v (.pointer (some ⟨g4, 2, none⟩)), .v (.slice XB xm xd), .v (.agg #[.bool false, .slice XB xm xd]), .int (sgn ys (nv yl) * nv xr) (K + M), .int (sgn xs (nv xl) * nv yr + sgn ys (nv yl) * nv xr) (K + M + 1), .box 26 [.bool false, .slice none 0 0]]) (by kernel_rfl) (by kernel_rfl) (Below.refl _ _).drew (fun j x a b h1 h2 => ⟨below_then h1 h2.1, fun i _ v => dT_keep h2.1 i v, Below.refl _ _, fun w0 h => below_then h h2.1⟩) (fun j v w h => by cases h) ?_ (fun j o _ _ h => by cases h) ?_
        · refine ⟨?_, ?_, ?_, ?_, ?_, ?_, ?_, ?_, ?_, ?_, ?_, ?_, ?_, ?_, ?_, ?_, ?_, ?_, trivial⟩
          all_goals
            intro vs w9 hp hF
            have HP := Lib.hid hp
            have y0 : w9.cell? ⟨g4, 0, none⟩ = some (.bool xs) := ((HG.out.1.keep H3.out).keep hp).2.1 0
            have y1 : w9.cell? ⟨g4, 1, none⟩ = some (.slice XA xn xc) := ((HG.out.1.keep H3.out).keep hp).2.1 1
            have y2 : w9.cell? ⟨g4, 2, none⟩ = some (.slice XB xm xd) := ((HG.out.1.keep H3.out).keep hp).2.1 2
            have y4 : w9.cell? ⟨g5, 0, none⟩ = some (.bool ys) := ((HG.out.2.keep H3.out).keep hp).2.1 0
            have y5 : w9.cell? ⟨g5, 1, none⟩ = some (.slice YA yn yc) := ((HG.out.2.keep H3.out).keep hp).2.1 1
            have y6 : w9.cell? ⟨g5, 2, none⟩ = some (.slice YB ym yd) := ((HG.out.2.keep H3.out).keep hp).2.1 2
            clear hp
            simp [depsB, Region.binds, dT] at hF
            simp [stL, depsB, Region.binds, Act.put, hF]
          · (go_wp2_with fail; exact ⟨rfl, Below.refl _ _, nbx rfl⟩)
          · (go_wp2_with fail; exact ⟨rfl, Below.refl _ _, nbx rfl⟩)
          · (obtain ⟨dI, hI1, hI2⟩ := row_Int; refine wp_ld rfl 26 _ rfl (g4) 0 rfl (((HG.out.1.keep H3.out).keep HP.out)) [.bool xs, .slice XA xn xc] (fun j v h => by rcases j with _ | _ | _ | _ | j <;> simp at h ⊢ <;> exact h) dI hI1 hI2 size_Int ?_; go_wp2_with fail; exact ⟨rfl, Below.refl _ _, nbx rfl⟩)
          · (go_wp2_with fail; exact ⟨rfl, Below.refl _ _, nbx rfl⟩)
          · (go_wp2_with fail; exact ⟨rfl, Below.refl _ _, nbx rfl⟩)
          · (go_wp2_with fail; exact ⟨rfl, Below.refl _ _, nbx rfl⟩)
          · go_wp2_with (go_at_call 93; (with_reducible refine (rt_natural _ _ _ _).mono ?_); rintro e1 w1' ⟨rfl, hb1⟩)
            exact ⟨rfl, hb1, nbx rfl⟩
          · go_wp2_with (go_at_call 87; (with_reducible refine (CP.out _ HP.out).mono ?_); rintro e1 w1' ⟨v1, rfl, o1, hb1⟩)
            exact ⟨IntO.base o1 HP.out.size, hb1, nbx rfl⟩
          · (go_wp2_with fail; exact ⟨rfl, Below.refl _ _, nbx rfl⟩)
          · (go_wp2_with fail; exact ⟨rfl, Below.refl _ _, nbx rfl⟩)
          · (obtain ⟨dI, hI1, hI2⟩ := row_Int; refine wp_ld rfl 26 _ rfl (g5) 0 rfl (((HG.out.2.keep H3.out).keep HP.out)) [.bool ys, .slice YA yn yc] (fun j v h => by rcases j with _ | _ | _ | _ | j <;> simp at h ⊢ <;> exact h) dI hI1 hI2 size_Int ?_; go_wp2_with fail; exact ⟨rfl, Below.refl _ _, nbx rfl⟩)
          · (go_wp2_with fail; exact ⟨rfl, Below.refl _ _, nbx rfl⟩)
          · (go_wp2_with fail; exact ⟨rfl, Below.refl _ _, nbx rfl⟩)
          · (go_wp2_with fail; exact ⟨rfl, Below.refl _ _, nbx rfl⟩)
          · go_wp2_with (go_at_call 93; (with_reducible refine (rt_natural _ _ _ _).mono ?_); rintro e1 w1' ⟨rfl, hb1⟩)
            exact ⟨rfl, hb1, nbx rfl⟩
          · go_wp2_with (go_at_call 87; (with_reducible refine (CQ.out _ HP.out).mono ?_); rintro e1 w1' ⟨v1, rfl, o1, hb1⟩)
            exact ⟨IntO.base o1 HP.out.size, hb1, nbx rfl⟩
          · obtain ⟨⟨g6, A6, c6, l6, e6, h6⟩, ⟨g7, A7, c7, l7, e7, h7⟩⟩ := hF
            have h6' : Hid (IntO w3.heap.size w9 (.agg #[.bool g6, .slice A6 l6.length c6]) (sgn xs (nv xl) * nv yr) (K + M)) := Lib.hid ⟨_, _, _, _, rfl, h6⟩
            have h7' : Hid (IntO w3.heap.size w9 (.agg #[.bool g7, .slice A7 l7.length c7]) (sgn ys (nv yl) * nv xr) (K + M)) := Lib.hid ⟨_, _, _, _, rfl, h7⟩
            clear h6 h7
            simp only [e6, e7]
            go_wp2_with (go_at_call 94; (with_reducible refine (it_AddA _ _ _ _ (K + M) (K + M) w3.heap.size w3.heap.size _ h6'.out.intB h7'.out.intB HKM.out HKM.out).mono ?_); rintro e1 w1' ⟨v1, rfl, o1, hb1⟩)
            exact ⟨IntO.base (IntO.le o1 (by omega)) HP.out.size, hb1, nbx rfl⟩
          · (go_wp2_with fail; exact ⟨BoxO.new HP.out.size, (Below.refl _ _).alloc (Nat.le_refl _) _, fun _ => rfl⟩)
        intro vs w9 hp hF hpr
        obtain ⟨pn, PA, pc, pl, e16, hi⟩ : IntO w3.heap.size w9 (vs 16) (sgn xs (nv xl) * nv yr + sgn ys (nv yl) * nv xr) (K + M + 1) := hF 16 (by decide) rfl
        have hi' : IntO w3.heap.size w9 (.agg #[.bool pn, .slice PA pl.length pc]) (sgn xs (nv xl) * nv yr + sgn ys (nv yl) * nv xr) (K + M + 1) := ⟨_, _, _, _, rfl, hi⟩
        obtain ⟨g7, e17, k7, b7, t7⟩ : BoxO w3.heap.size w9 (vs 17) 26 [.bool false, .slice none 0 0] := hF 17 (by decide) rfl
        obtain ⟨rl, hr4⟩ := hi'.nrm (b' := w3.heap.size)
        clear hF hpr hi hi'
        show wpList Try.prog _ _ [_] _ _
        simp [stL, Act.put, e16, e17]
        refine wp_st rfl 26 _ _ rfl g7 0 [.bool pn, .slice PA pl.length pc] rfl rfl size_Int rfl b7 (Nat.le_refl _) rfl ?_
        intro w4 c4 q4
        have HR4 : Hid ((DigB w3.heap.size w4 PA rl ∧ rl.length = pl.length ∧ pl.length ≤ pc ∧ pl.length ≤ K + M + 1) ∧ sgn pn (nv rl) = sgn xs (nv xl) * nv yr + sgn ys (nv yl) * nv xr) := Lib.hid ⟨⟨hr4.1.1.kept q4 k7 t7 (by decide), hr4.1.2⟩, hr4.2⟩
        have H4 : Hid (Below w3.heap.size w3 w4) := Lib.hid (put_facts hp k7 q4)
        have HPB : Hid (Box w4 g7 [.bool pn, .slice PA pl.length pc]) := Lib.hid c4
        have HBB := Lib.hid (below_then H3.out H4.out)
        clear hr4 e16 e17 k7 b7 t7 q4 c4 hp y0 y1 y2 y4 y5 y6
        have z2 : w4.cell? ⟨g4, 2, none⟩ = some (.slice XB xm xd) := ((HG.out.1.keep H3.out).keep H4.out).2.1 2
        have z6 : w4.cell? ⟨g5, 2, none⟩ = some (.slice YB ym yd) := ((HG.out.2.keep H3.out).keep H4.out).2.1 2
        have CN : Hid (∀ w5, Below w4.heap.size w4 w5 → Calls Try.prog 89 #[.slice XB xm xd, .slice YB ym yd] w5 (RetN w5 (nv xr * nv yr) (K + M))) := Lib.hid fun w5 h => nt_MulA _ _ xr yr K M _ _ w5 ((HDX.out.grow HBB.out).grow h) ((HDY.out.grow HBB.out).grow h) h9 h8
        clear CP CQ
        go_upto_region 7 with fail
        have CL : Hid (∀ v1 w1 b, PairB b w1 v1 (frac xs xl xr + frac ys yl yr) (K + M + 1) → Calls Try.prog 90 #[v1] w1 (RetQ w1 (frac xs xl xr + frac ys yl yr) (K + M + 1))) := Lib.hid fun v1 w1 b h => rt_low v1 _ (K + M + 1) b w1 h (by omega)
        refine wp_region_grow7 (fun i => Nat.blt i 10) (fun _ => false) (fun w9 => Below w4.heap.size w4 w9) (gT [.v (.agg #[.bool pn, .slice PA pl.length pc]), .v (.pointer (some ⟨g4, 0, none⟩)), .v (.pointer (some ⟨g4, 2, none⟩)), .v (.slice XB xm xd), .v (.pointer (some ⟨g5, 0, none⟩)), .v (.pointer (some ⟨g5, 2, none⟩)), .v (.slice YB ym yd), .num (nv xr * nv yr) (K + M), .pr (frac xs xl xr + frac ys yl yr) (K + M + 1), .rq (frac xs xl xr + frac ys yl yr) (K + M + 1)]) (fun a b => Below a.heap.size a b) (dT w4.heap.size [.v (.agg #[.bool pn, .slice PA pl.length pc]), .v (.pointer (some ⟨g4, 0, none⟩)), .v (.pointer (some ⟨g4, 2, none⟩)), .v (.slice XB xm xd), .v (.pointer (some ⟨g5, 0, none⟩)), .v (.pointer (some ⟨g5, 2, none⟩)), .v (.slice YB ym yd), .num (nv xr * nv yr) (K + M), .pr (frac xs xl xr + frac ys yl yr) (K + M + 1), .rq (frac xs xl xr + frac ys yl yr) (K + M + 1)]) (by kernel_rfl) (by kernel_rfl) (Below.refl _ _).drew (fun j x a b h1 h2 => ⟨below_then h1 h2.1, fun i _ v => dT_keep h2.1 i v, Below.refl _ _, fun w0 h => below_then h h2.1⟩) (fun j v w h => by cases h) ?_ (fun j o _ _ h => by cases h) ?_
        · refine ⟨?_, ?_, ?_, ?_, ?_, ?_, ?_, ?_, ?_, ?_, trivial⟩
          all_goals
            intro vs w9 hp hF
            have HP := Lib.hid hp
            have y2 : w9.cell? ⟨g4, 2, none⟩ = some (.slice XB xm xd) := (((HG.out.1.keep HBB.out).keep hp)).2.1 2
            have y6 : w9.cell? ⟨g5, 2, none⟩ = some (.slice YB ym yd) := (((HG.out.2.keep HBB.out).keep hp)).2.1 2
            clear hp
            simp [depsB, Region.binds, dT] at hF
            simp [stL, depsB, Region.binds, Act.put, hF]
          · (obtain ⟨dI, hI1, hI2⟩ := row_Int; refine wp_ld rfl 26 _ rfl (g7) 0 rfl (HPB.out.keep HP.out) [.bool pn, .slice PA pl.length pc] (fun j v h => by rcases j with _ | _ | _ | _ | j <;> simp at h ⊢ <;> exact h) dI hI1 hI2 size_Int ?_; go_wp2_with fail; exact ⟨rfl, Below.refl _ _, nbx rfl⟩)
          · (go_wp2_with fail; exact ⟨rfl, Below.refl _ _, nbx rfl⟩)
          · (go_wp2_with fail; exact ⟨rfl, Below.refl _ _, nbx rfl⟩)
          · (go_wp2_with fail; exact ⟨rfl, Below.refl _ _, nbx rfl⟩)
          · (go_wp2_with fail; exact ⟨rfl, Below.refl _ _, nbx rfl⟩)
          · (go_wp2_with fail; exact ⟨rfl, Below.refl _ _, nbx rfl⟩)
          · (go_wp2_with fail; exact ⟨rfl, Below.refl _ _, nbx rfl⟩)
          · go_wp2_with (go_at_call 89; (with_reducible refine (CN.out _ HP.out).mono ?_); intro e1 w1' h1; obtain ⟨v1, rfl, o1, hb1⟩ := h1.num (b := w4.heap.size) HP.out.size)
            exact ⟨o1, hb1, nbx rfl⟩
          · obtain ⟨e0, A', c', l', e7, o7, n7, m7, k7⟩ := hF
            have HN7 := Lib.hid n7
            clear n7
            simp only [e0, e7]
            go_wp2_with fail
            exact ⟨PairB.mk (b := w4.heap.size) ⟨(HR4.out.1.1.more H4.out.size).grow HP.out, HR4.out.1.2⟩ ⟨o7.digB, rfl, o7.len.2, by omega⟩ (by rw [HN7.out]; exact Int.mul_pos HV.out.2.2.1 HV.out.2.2.2.1) (frac_sump HR4.out.2 HN7.out HV.out.2.2.1 HV.out.2.2.2.1), Below.refl _ _, nbx rfl⟩
          · obtain ⟨⟨p1, p2, p3, p4, p5, p6, p7, p8, p9, e8, hp8⟩, -⟩ := hF
            simp only [e8]
            have HP8 := Lib.hid hp8
            clear hp8
            go_wp2_with (go_at_call 90; (with_reducible refine (CL.out _ _ w4.heap.size (PairB.mk HP8.out.1 HP8.out.2.1 HP8.out.2.2.1 HP8.out.2.2.2)).mono ?_); rintro e1 w1' ⟨v1, rfl, hq, hb1⟩)
            exact ⟨hq.base HP.out.size, hb1, nbx rfl⟩
        intro vs w9 hp hF hpr
        have hq : RatQ w4.heap.size w9 (vs 9) (frac xs xl xr + frac ys yl yr) (K + M + 1) := hF 9 (by decide) rfl
        have HQ : Hid (RatQ w2.heap.size w9 (vs 9) (frac xs xl xr + frac ys yl yr) (K + M + 1)) := Lib.hid (hq.base HBB.out.size)
        obtain ⟨q2, A2', n2, c2, B2', m2, d2, e9⟩ := hq.form
        rw [e9] at HQ
        have HBE := Lib.hid (below_then HBB.out hp)
        clear hF hpr hq hp
        show wpList Try.prog _ _ [_] _ _
        simp [stL, Act.put, e9]
        refine wp_st rfl 28 _ _ rfl (w.heap.size + 1 + 1) 0 [_, _, _] rfl rfl size_Rat rfl ((HA.out.2.2.2.keep HB.out).keep HBE.out) (Nat.le_refl _) rfl ?_
        intro W9 c9 g9
        go_wp2_with fail
        have hb5 := below_then (below_then HA.out.1 HB.out) HBE.out
        have hW := put_facts (g := w.heap.size + 1 + 1) hb5 (by omega) g9
        have hq := (HQ.out.away g9 (Nat.lt_of_lt_of_le HA.out.2.2.2.1 HB.out.size)).base (b' := w.heap.size) (below_then HA.out.1 HB.out).size
        refine bodyPost_ret (resC rfl _ _ W9 (g := w.heap.size + 1 + 1) rfl (res_box 28 c9 dsR HR.out.1 HR.out.2 size_Rat)) rfl ?_
        refine ⟨_, rfl, ?_, hW⟩
        refine Eq.mp (congrArg (fun z => RatQ w.heap.size W9 _ z (K + M + 1)) ?_) hq
        rw [HV.out.1, HV.out.2.1]
end Go.Proofs.Ytmdfgidejdiiiaa
