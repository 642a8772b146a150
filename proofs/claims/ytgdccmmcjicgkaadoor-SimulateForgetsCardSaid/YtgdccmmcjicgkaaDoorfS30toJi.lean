/- Several texts in one: S30 S36 S31 Ji. -/
import Derived.Test.YtgdccmmcjicgkaaDoorfS29
import Derived.Test.YtgdccmmcjicgkaaDoorfU3toJ
import Derived.Test.YtgdccmmcjicgkaaDoorfS22toS14
import Derived.Test.YtgdccmmcjicgkaaDoorfS1toU5
import Derived.Test.YtgdccmmcjicgkaaDoorfOdtoS3
import Derived.Test.YtgdccmmcjicgkaaDoorfLatoU
import Derived.Test.YtgdccmmcjicgkaaDoorfE1toI0
import Derived.Test.YtgdccmmcjicgkaaDoorfE3toE15
import Derived.Test.YtgdccmmcjicgkaaDoorfJ8
set_option linter.unusedVariables false
set_option linter.unusedSimpArgs false
section
namespace Go.Proofs.YtgdccmmcjicgkaaDoor
open Go.RowKit
def RetRunR (w : World) (d : PrgD) (m : Mac) (xs : List Int) (e : Ending) (w' : World) : Prop := ∃ (A : Option Addr) (c : Nat) (z : MacA), z.m = runM d m xs ∧ e = .returned (.tuple #[.slice A (runO d m xs).length c, z.v, .int .i64 (runV d m xs), .int .i64 0]) ∧ Own w.heap.size w' (.slice A (runO d m xs).length c) (runO d m xs) ∧ MacAt w' z ∧ MacF w.heap.size w' z ∧ Below w.heap.size w w'
theorem RetRunS.toR {w : World} {d : PrgD} {m : Mac} {xs : List Int} {e : Ending} {w' : World} (h : RetRunS w d m xs e w') : RetRunR w d m xs e w' := by
  obtain ⟨vo, vg, vm, vh, e1, ho, hm, hb⟩ := h
  obtain ⟨A, c, rfl, -⟩ := own_form ho.1
  obtain ⟨A1, c1, rfl, -⟩ := own_form hm.regs.1
  obtain ⟨A2, c2, rfl, -⟩ := own_form hm.mem.1
  obtain ⟨A3, c3, rfl, -⟩ := own_form hm.heads.1
  exact ⟨A, c, ⟨runM d m xs, A1, A2, A3, c1, c2, c3⟩, rfl, e1, ho, ⟨hm.regs.ints, hm.mem.ints, hm.heads.ints⟩, ⟨fun _ => own_ty hm.regs, fun _ => own_ty hm.mem, fun _ => own_ty hm.heads⟩, hb⟩
theorem sm_RunR (u : PrgA) (x : MacA) (XA : Option Addr) (xn xc : Nat) (xs : List Int) (w : World) (hf : FormsAt w) (hp : PrgAt w u) (hx : MacAt w x) (hi : Ints w XA xs) (hm : macB u.d x.m = true) (hw : wordD u.d xs = true) (hn : xs.length = xn) (h4 : xn ≤ 4096) :
    Calls Tryd.prog 24 #[u.v, x.v, .slice XA xn xc] w (RetRunR w u.d x.m xs) := (sm_Run u x XA xn xc xs w hf hp hx hi hm hw hn h4).mono fun _ _ h => h.toR
end Go.Proofs.YtgdccmmcjicgkaaDoor
end
section
namespace Go.Proofs.YtgdccmmcjicgkaaDoor
open Go.RowKit
def spC (W : World) (g : Nat) (w : World) : Prop := W.grownBy w (some g) ∧ ∃ M : List Value, Box w g M ∧ M.length = 5
def spG (g : Nat) (L : List Value) (a b : World) : Prop := a.grownBy b (some g) ∧ (Box a g L → Box b g L) ∧ ((∃ M : List Value, Box a g M ∧ M.length = 5) → ∃ M : List Value, Box b g M ∧ M.length = 5)
theorem spG.refl (g : Nat) (L : List Value) (a : World) : spG g L a a := ⟨World.grownBy.refl _ _, id, id⟩
def spF (z : MacA) (o V : Int) (ov : Bool) (g q c : Nat) : Nat → Value → World → Prop
  | 0, v, _ => v = .agg z.lst.toArray
  | 1, v, _ => v = .slice (some ⟨q, 0, none⟩) 1 c
  | 2, v, _ => v = .pointer (some ⟨q, 0, none⟩)
  | 3, v, _ => v = .int .i64 o
  | 4, v, _ => v = .int .i64 V
  | 5, v, _ => v = .bool ov
  | 6, _, w => Box w g z.lst
  | _, _, _ => True
theorem spF_keep {z : MacA} {o V : Int} {ov : Bool} {g q c : Nat} {w w' : World} (h : spG g z.lst w w') : ∀ i v, spF z o V ov g q c i v w → spF z o V ov g q c i v w'
  | 0, _, e | 1, _, e | 2, _, e | 3, _, e | 4, _, e | 5, _, e => e
  | 6, _, e => h.2.1 e
  | n + 7, _, e => e
set_option maxRecDepth 100000 in
set_option maxHeartbeats 8000000 in
theorem sm_Sample (u : PrgA) (x : MacA) (y : Int) (w : World) (hf : FormsAt w) (hp : PrgAt w u) (hx : MacAt w x) (hm : macB u.d x.m = true) (hy : fitsW u.d.d0 u.d.d1 u.d.d2 u.d.d3 y = true) (hy9 : I64 y) :
    Calls Tryd.prog 28 #[u.v, x.v, .int .i64 y] w (RetSmp w u.d x.m y) := by
  obtain ⟨o, ho⟩ : ∃ o, (sampF u.d y x.m u.d.code).out = o := ⟨_, rfl⟩
  obtain ⟨ov, hov⟩ : ∃ o, (sampF u.d y x.m u.d.code).ov = o := ⟨_, rfl⟩
  obtain ⟨V, hV⟩ : ∃ o, runV u.d x.m [y] = o := ⟨_, rfl⟩
  have hV2 : V = if ov = true then 1 else 0 := by
    rw [← hV, ← hov]
    show ovN u.d y x.m + 0 = _
    unfold ovN
    rw [Int.add_zero]
  have dV : decide (0 < V) = ov := by rw [hV2]; cases ov <;> rfl
  have CR : Hid (∀ w1 A c, Below w.heap.size w w1 → Ints w1 A [y] → Calls Tryd.prog 24 #[.agg u.lst.toArray, .agg x.lst.toArray, .slice A 1 c] w1 fun e w' => ∃ (A : Option Addr) (c : Nat) (z : MacA), z.m = macN u.d y x.m ∧ e = .returned (.tuple #[.slice A 1 c, .agg z.lst.toArray, .int .i64 V, .int .i64 0]) ∧ Own w1.heap.size w' (.slice A 1 c) [o] ∧ MacAt w' z ∧ MacF w1.heap.size w' z ∧ Below w1.heap.size w1 w') := Lib.hid fun w1 A c hb hi => by
    have h := sm_RunR u x A 1 c [y] w1 (hf.grow hb) (hp.grow hb) (hx.grow hb) hi hm (by
      unfold wordD wordsB
      show (fitsW u.d.d0 u.d.d1 u.d.d2 u.d.d3 y && true) = true
      rw [hy]; rfl) rfl (by omega)
    unfold RetRunR at h
    rw [hV, show runO u.d x.m [y] = [o] by rw [← ho]; rfl] at h
    exact h
  have HS : Hid ((sampF u.d y x.m u.d.code).out = o ∧ (sampF u.d y x.m u.d.code).ov = ov) := Lib.hid ⟨ho, hov⟩
  have HY := Lib.hid hy9
  have ev : u.v = .agg u.lst.toArray := rfl
  have em : x.v = .agg x.lst.toArray := rfl
  rw [ev, em]
  clear ev em hf hp hx hm hy ho hov hV hV2 hy9
  go_enter Tryd.func28, Tryd.ntmps28
  go_upto_region 1 with fail
  obtain ⟨bp, bm, br, hb0⟩ := entry3R w u.lst x.lst zeros5 _ rfl
  change Code.wp _ _ _ _ (((w.alloc (.cells u.lst.toArray 43)).alloc (.cells x.lst.toArray 46)).alloc (.cells zeros5.toArray 46))
  generalize (((w.alloc (.cells u.lst.toArray 43)).alloc (.cells x.lst.toArray 46)).alloc (.cells zeros5.toArray 46)) = W0 at bp bm br hb0 ⊢
  have HB0 := Lib.hid hb0
  have HP0 := Lib.hid bp
  have HM0 := Lib.hid bm
  have HR0 := Lib.hid br
  clear hb0 bp bm br
  go_upto_region 4 with (first
    | ((with_reducible show wpList _ _ _ (Oper.mk _ (.load 43 _) _ _ _ _ :: _) _ _); refine ld_prg HP0.out (lst_ten u) rfl _ rfl rfl ?_)
    | ((with_reducible show wpList _ _ _ (Oper.mk _ (.load 46 _) _ _ _ _ :: _) _ _); refine ld_mac HM0.out rfl rfl _ rfl rfl ?_)
    | (go_at_call 24; (with_reducible refine (CR.out _ _ _ (HB0.out.alloc HB0.out.size _) (lit_one HY.out)).mono ?_); rintro e1 w1 ⟨A1, c1, z, hz, rfl, ho1, ha1, hf1, hb1⟩)
    | ((with_reducible show wpList _ _ _ (Oper.mk _ (.store 46 _ _) _ _ _ _ :: _) _ _); refine st_mac (L := z.lst) (Box.new (w := w1) (t := 46) (vs := zeros5.toArray) rfl) rfl rfl rfl rfl _ _ rfl rfl rfl ?_; intro W2 hb2 hg2))
  have hb12 := put_facts ((Below.refl w1.heap.size w1).alloc (Nat.le_refl _) (.cells zeros5.toArray 46)) (Nat.le_refl _) hg2
  have hb01 : Below W0.heap.size W0 w1 := below_then ((Below.refl W0.heap.size W0).alloc (Nat.le_refl _) (.cells #[.int .i64 y] 3)) hb1
  have hsz : W0.heap.size ≤ (W0.alloc (.cells #[.int .i64 y] 3)).heap.size := by simp
  have hB2 := below_then HB0.out (below_then hb01 hb12)
  have hr2 := HR0.out.keep (below_then hb01 hb12)
  have ho2 := ho1.grow hb12
  have ha2 := ha1.grow hb12
  have hf2 := hf1.grow hb12
  obtain ⟨q, c', eq, -⟩ : ∃ q c', (.slice A1 1 c1 : Value) = .slice (some ⟨q, 0, none⟩) 1 c' ∧ True := by
    obtain ⟨q, c', e⟩ := own_some ho2 (by show 0 < 1; omega)
    exact ⟨q, c', e, trivial⟩
  injection eq with eA eN eC
  subst eA eC
  have hg6 : w.heap.size + 2 < W0.heap.size := HR0.out.1
  have hqg : q ≠ w.heap.size + 2 := by
    have h1 := own_ge ho2 q rfl
    omega
  have hnw : w1.heap.size ≠ w.heap.size + 2 := by have := hb01.size; omega
  have HB2 := Lib.hid hB2
  have HO2 := Lib.hid ho2
  have HZ := Lib.hid hz
  have HE2 := Lib.hid hb2
  have HA2 := Lib.hid ha2
  have HF2 := Lib.hid hf2
  have HSZ := Lib.hid hsz
  have HBZ : Hid (w.heap.size ≤ (W0.alloc (.cells #[.int .i64 y] 3)).heap.size) := Lib.hid (Nat.le_trans HB0.out.size hsz)
  clear hb1 hb12 hb01 hsz hB2 ho1 ho2 ha1 ha2 hf1 hf2 hz hb2 hg2 HB0 HP0 HM0 HR0 CR
  obtain ⟨g6, hg6e⟩ : ∃ g, w.heap.size + 2 = g := ⟨_, rfl⟩
  have HGW : Hid (w.heap.size + 2 = g6) := Lib.hid hg6e
  rw [hg6e] at hr2 hg6 hqg hnw ⊢
  have HR2 := Lib.hid hr2
  clear hr2 hg6e
  generalize w1.heap.size = ge at HE2 hnw ⊢
  refine wp_region_grow8 (fun i => Nat.blt i 7) (fun i => Nat.beq i 4 || Nat.beq i 5) (spC W2 g6) (spG g6 z.lst) (spF z o V ov g6 q c1) (by kernel_rfl) (by kernel_rfl) ⟨drew_grown _ _, _, HR2.out.keep (drew_belowS _), rfl⟩ (fun a b h1 h2 => ⟨⟨h1.1.trans h2.1, h2.2.2 h1.2⟩, fun i _ v => spF_keep h2 i v⟩) (fun w _ => spG.refl _ _ _) ?_ ?_ ?_
  · refine ⟨?_, ?_, ?_, ?_, ?_, ?_, ?_, trivial⟩
    all_goals
      intro vs w5 hp hF
      have HWX : Hid (Box w5 ge z.lst) := Lib.hid (HE2.out.grown hp.1 (fun e => hnw (by injection e)))
      have HOX := Lib.hid (own_keptI HO2.out hp.1 (fun e => hqg (by injection e)))
      obtain ⟨MX, hMX, hM5⟩ := hp.2
      have HMX := Lib.hid hMX
      have HM5 := Lib.hid hM5
      clear hp hMX hM5
      simp [depsB, Region.binds, spF] at hF
      simp [stL, depsB, Region.binds, Act.put, hF]
    · refine ld_mac HWX.out rfl rfl _ rfl rfl ?_
      exact wpList_nil ⟨rfl, _, rfl, rfl, spG.refl _ _ _⟩
    · go_wp2_with fail
      exact ⟨rfl, spG.refl _ _ _⟩
    · go_wp2_with fail
      exact ⟨rfl, spG.refl _ _ _⟩
    · have y0 : w5.cell? ⟨q, 0, none⟩ = some (.int .i64 o) := own_getD HOX.out (k := 0) (by show 0 < 1; omega)
      go_wp2_with fail
      exact ⟨rfl, spG.refl _ _ _⟩
    · go_wp2_with fail
      exact ⟨rfl, spG.refl _ _ _⟩
    · go_wp2_with fail
      exact ⟨rfl, spG.refl _ _ _⟩
    · refine st_mac (L := z.lst) HMX.out HM5.out rfl rfl rfl _ _ rfl rfl rfl ?_
      intro W6 hb6 hg6'
      exact wpList_nil ⟨rfl, rfl, ⟨undef, hb6⟩, hg6', fun _ => hb6, fun _ => ⟨_, hb6, rfl⟩⟩
  · intro j op hop _ hl
    have hj : j = 4 ∨ j = 5 := by simpa using hl
    intro vs w5 hC hF
    rcases hj with rfl | rfl
    all_goals
      injection hop with hop
      subst hop
    · exact ⟨.int .i64 V, fun w' => by simp [execOp, stL, depsB, Region.binds, go_sem, Act.put], rfl⟩
    · have h4 : vs 4 = .int .i64 V := hF 4 (by decide)
      exact ⟨.bool ov, fun w' => by simp [execOp, stL, depsB, Region.binds, go_sem, Act.put, h4, dV], rfl⟩
  intro vs w5 hC hF
  have e3 : vs 3 = .int .i64 o := hF 3 (by decide) rfl
  have e5 : vs 5 = .bool ov := hF 5 (by decide) rfl
  have h6 : Box w5 g6 z.lst := hF 6 (by decide) rfl
  have HG5 := Lib.hid hC.1
  have H6 := Lib.hid h6
  clear hF hC h6
  show wpList Tryd.prog _ _ [_, _, _] _ _
  simp [stL, Act.put, e3, e5]
  go_wp2_with fail
  obtain ⟨dsc, hd1, hd2⟩ := row_mac
  refine bodyPost_ret (resCTTT rfl _ _ w5 (g := g6) (v := .agg z.lst.toArray) rfl (res_box _ H6.out dsc hd1 hd2 size_mac)) rfl ?_
  obtain ⟨ha5, hf5⟩ := HA2.out.kept HF2.out HG5.out (Nat.lt_of_lt_of_le hg6 HSZ.out)
  refine ⟨z, HZ.out, ?_, ha5, hf5.mono HBZ.out, grown_toI HB2.out HG5.out (by rw [← HGW.out]; omega)⟩
  rw [HS.out.1, HS.out.2]
  rfl
end Go.Proofs.YtgdccmmcjicgkaaDoor
end
section
namespace Go.Proofs.YtgdccmmcjicgkaaDoor
open Go.RowKit
theorem bld_ins3 {ops : Array Oper} {rest : List Oper} {o : Oper} {a : Act} {Q : Exit → Act → World → Prop} {w : World} (i0 i1 i2 : Ins) (hgd : o.guard = none) (x0 x1 x2 : Operand) (ho : o.op = .buildSlice 22 3 #[(0, x0), (1, x1), (2, x2)]) (h0 : a.eval x0 = i0.v) (h1 : a.eval x1 = i1.v) (h2 : a.eval x2 = i2.v)
    (h : wpList Tryd.prog ops Q rest (a.put o.dst (.slice (some ⟨w.heap.size, 0, none⟩) 3 3)) (litI w [i0, i1, i2])) : wpList Tryd.prog ops Q (o :: rest) a w :=
  wp_bldS hgd 22 24 3 _ ho und_ins 4 size_ins (by decide) (by decide) _ rfl (by show builtS Tryd.prog 24 3 [(0, a.eval x0), (1, a.eval x1), (2, a.eval x2)] = _; rw [h0, h1, h2]; kernel_rfl) h
abbrev kn39a : List Ins := [⟨6, 0, 0, 0⟩, ⟨10, 0, 0, 0⟩, ⟨0, 0, 0, 0⟩]
abbrev kn39b : List Ins := [⟨1, 0, 0, 0⟩, ⟨5, 1, 0, 0⟩, ⟨10, 1, 0, 0⟩, ⟨0, 0, 0, 0⟩]
theorem kn39a_time : cycF kn39a = 4 ∧ stlF kn39a = 1 ∧ depE kn39a = 0 := by decide +kernel
theorem kn39b_time : cycF kn39b = 6 ∧ stlF kn39b = 2 ∧ depE kn39b = 0 := by decide +kernel
theorem kn39a_ok : ∀ i ∈ kn39a, i.ok := by unfold Ins.ok I64; decide +kernel
theorem kn39b_ok : ∀ i ∈ kn39b, i.ok := by unfold Ins.ok I64; decide +kernel
set_option maxRecDepth 100000 in
set_option maxHeartbeats 4000000 in
theorem known39 (w : World) (hf : FormsAt w) : Calls Tryd.prog 20 #[] w fun e w' => e = .returned (.bool true) ∧ Below w.heap.size w w' := by
  have HF := Lib.hid hf
  have C1 : Hid (∀ w1 A c, Below w.heap.size w w1 → InsAt w1 A kn39a → Calls Tryd.prog 30 #[.slice A 3 c] w1 fun e w' => e = .returned (.tuple #[.int .i64 4, .int .i64 1, .int .i64 0]) ∧ Below w1.heap.size w1 w') := Lib.hid fun w1 A c hb hi => by
    have := sm_Time A 3 c kn39a w1 (HF.out.grow hb) hi rfl (by decide)
    unfold RetTime at this
    rw [kn39a_time.1, kn39a_time.2.1, kn39a_time.2.2] at this
    exact this
  have C2 : Hid (∀ w1 A c, Below w.heap.size w w1 → InsAt w1 A kn39b → Calls Tryd.prog 30 #[.slice A 4 c] w1 fun e w' => e = .returned (.tuple #[.int .i64 6, .int .i64 2, .int .i64 0]) ∧ Below w1.heap.size w1 w') := Lib.hid fun w1 A c hb hi => by
    have := sm_Time A 4 c kn39b w1 (HF.out.grow hb) hi rfl (by decide)
    unfold RetTime at this
    rw [kn39b_time.1, kn39b_time.2.1, kn39b_time.2.2] at this
    exact this
  clear hf
  go_enter Tryd.func20, Tryd.ntmps20
  go_upto_region 2 with (first
    | ((with_reducible show wpList _ _ _ (Oper.mk (some 11) _ _ _ _ _ :: _) _ _); refine bld_ins3 ⟨6, 0, 0, 0⟩ ⟨10, 0, 0, 0⟩ ⟨0, 0, 0, 0⟩ rfl _ _ _ rfl rfl rfl rfl ?_)
    | (go_at_call 30; (with_reducible refine (C1.out _ _ _ (litI_below w kn39a) (InsAt.lit kn39a_ok)).mono ?_); rintro e1 w1 ⟨rfl, hb1⟩))
  have HB2 := Lib.hid (below_then (litI_below w kn39a) hb1)
  clear hb1
  go_upto_region 3 with (first
    | ((with_reducible show wpList _ _ _ (Oper.mk (some 21) _ _ _ _ _ :: _) _ _); refine bld_ins4 ⟨1, 0, 0, 0⟩ ⟨5, 1, 0, 0⟩ ⟨10, 1, 0, 0⟩ ⟨0, 0, 0, 0⟩ rfl _ _ _ _ rfl rfl rfl rfl rfl ?_)
    | (go_at_call 30; (with_reducible refine (C2.out _ _ _ (below_then HB2.out (litI_below w1 kn39b)) (InsAt.lit kn39b_ok)).mono ?_); rintro e2 w2 ⟨rfl, hb3⟩))
  have HB4 := Lib.hid (below_then HB2.out (below_then (litI_below w1 kn39b) hb3))
  clear hb3
  go_wp2_with fail
  go_ret
  exact ⟨rfl, HB4.out⟩
end Go.Proofs.YtgdccmmcjicgkaaDoor
end
section
namespace Go.Proofs.YtgdccmmcjicgkaaDoor
open Go.RowKit
section
variable {P : Program} {md : Region.Mode}
def stepsI (P : Program) (md : Region.Mode) (ops : List Oper) (fb : Nat → Bool) (a : Act) (I : (Nat → Bool) → (Nat → Value) → World → Prop) : Nat → List Oper → Prop
  | _, [] => True
  | k, o :: l => match fb k with
    | true => (∀ S vs w, S k = false → (∀ i, depsB md o i = true → S i = true) → I S vs w → wpList P #[o] (fun e c w' => e = .normal ∧ ∃ v, c = (stL ops 0 (depsB md o) vs a).put o.dst v ∧ I (fun i => S i || i == k) (fun i => if i = k then v else vs i) w') [o] (stL ops 0 (depsB md o) vs a) w) ∧ stepsI P md ops fb a I (k + 1) l
    | false => stepsI P md ops fb a I (k + 1) l
theorem stepsI_at {ops : List Oper} {fb : Nat → Bool} {a : Act} {I : (Nat → Bool) → (Nat → Value) → World → Prop} : ∀ (l : List Oper) (k j : Nat) (o : Oper), stepsI P md ops fb a I k l → l[j]? = some o → fb (k + j) = true →
    ∀ S vs w, S (k + j) = false → (∀ i, depsB md o i = true → S i = true) → I S vs w → wpList P #[o] (fun e c w' => e = .normal ∧ ∃ v, c = (stL ops 0 (depsB md o) vs a).put o.dst v ∧ I (fun i => S i || i == (k + j)) (fun i => if i = k + j then v else vs i) w') [o] (stL ops 0 (depsB md o) vs a) w
  | [], _, _, _, _, h, _ => by simp at h
  | o :: l, k, 0, o', hs, h, hf => by
    simp only [List.getElem?_cons_zero, Option.some.injEq] at h
    subst h
    unfold stepsI at hs
    rw [Nat.add_zero] at hf ⊢
    rw [hf] at hs
    exact hs.1
  | o :: l, k, j + 1, o', hs, h, hf => by
    have e : k + (j + 1) = k + 1 + j := by omega
    rw [e] at hf ⊢
    refine stepsI_at l (k + 1) j o' ?_ (by simpa using h) hf
    unfold stepsI at hs
    split at hs
    · exact hs.2
    · exact hs
theorem wpAny_growI {fb : Nat → Bool} {l : List Oper} {a : Act} {Q : Exit → Act → World → Prop} {I : (Nat → Bool) → (Nat → Value) → World → Prop} (hQ : ∀ c a w, ¬ Q (.panic c) a w) (hB : grow8B md fb (fun _ => false) a.tmps.size l = true)
    (hs : stepsI P md l fb a I 0 l)
    (hf : ∀ S vs w', (∀ i, i < l.length → S i = fb i) → I S vs w' → wpList P l.toArray Q (((List.range l.length).filter fun i => !fb i).filterMap fun i => l[i]?) (stL l 0 fb vs a) w') :
    ∀ (fuel : Nat) (listed : Array Bool) (w : World) (vs : Nat → Value), (List.range l.length).countP (fun i => !listed.getD i false) = fuel → listed.size = l.length → (∀ i, i < l.length → fb i = false → listed.getD i false = false) →
      (∀ i o, l[i]? = some o → listed.getD i false = true → ∀ e ∈ o.after, Region.binds md e = true → listed.getD e.on false = true) → I (fun i => listed.getD i false) vs w → wpAny P md l.toArray Q fuel listed (stL l 0 (fun i => listed.getD i false) vs a) w := by
  have hsel : ∀ (j : Nat) (o : Oper) cs b, l.toArray[j]? = some o → o.op ≠ .select cs b := by
    unfold grow8B at hB
    rw [Bool.and_eq_true] at hB
    exact Region.noSelect_spec hB.1
  -- all that come first are done
  have full : ∀ (fuel : Nat) (listed : Array Bool) (w : World) (vs : Nat → Value), (List.range l.length).countP (fun i => !listed.getD i false) = fuel → listed.size = l.length → (∀ i, i < l.length → fb i = false → listed.getD i false = false) →
      (∀ i o, l[i]? = some o → listed.getD i false = true → ∀ e ∈ o.after, Region.binds md e = true → listed.getD e.on false = true) → I (fun i => listed.getD i false) vs w → (∀ i, i < l.length → fb i = true → listed.getD i false = true) → wpAny P md l.toArray Q fuel listed (stL l 0 (fun i => listed.getD i false) vs a) w := by
    intro fuel listed w vs hc hsz ht hcl hC hfull
    have hl : ∀ i, i < l.length → listed.getD i false = fb i := fun i hi => by
      cases h : fb i with
      | true => exact hfull i hi h
      | false => exact ht i hi h
    have hfuel : ((List.range l.length).filter fun i => !fb i).length = fuel := by
      rw [← hc, ← List.countP_eq_length_filter]
      exact List.countP_congr fun i hi => by rw [hl i (List.mem_range.1 hi)]
    rw [← hfuel]
    have hsort : ((List.range l.length).filter fun i => !fb i).Pairwise (· < ·) := List.Pairwise.filter _ List.pairwise_lt_range
    refine wpAny_tail8 hB _ listed _ w hsort (fun r hr => ?_) hsz (fun i hi => ?_) hcl ?_
    · rw [List.mem_filter, List.mem_range] at hr
      exact ⟨by simpa using hr.2, hr.1⟩
    · rw [hl i hi]
      have : ((List.range l.length).filter fun i => !fb i).contains i = !fb i := by
        rw [List.contains_eq_mem]
        cases h : fb i <;> simp [List.mem_filter, h, hi]
      rw [this, Bool.not_not]
    · have := hf _ vs w hl hC
      rw [stL_congr l 0 _ fb vs vs a (fun i _ hi => ⟨hl i (by omega), fun _ => rfl⟩)]
      exact this
  intro fuel
  induction fuel with
  | zero =>
    intro listed w vs hc hsz ht hcl hC
    have hall := cnt_zero hc
    exact full 0 listed w vs hc hsz ht hcl hC (fun i hi _ => by simpa using hall i hi)
  | succ fuel ih =>
    intro listed w vs hc hsz ht hcl hC
    by_cases hfull : ∀ i, i < l.length → fb i = true → listed.getD i false = true
    · exact full (fuel + 1) listed w vs hc hsz ht hcl hC hfull
    · obtain ⟨m, hmN, hmun, hmin⟩ : ∃ m, (m < l.length ∧ fb m = true) ∧ listed.getD m false = false ∧ ∀ i, i < m → fb i = true → listed.getD i false = true := by
        have : ∃ m, (m < l.length ∧ fb m = true) ∧ listed.getD m false = false := by
          rcases Classical.not_forall.1 hfull with ⟨m, hm⟩
          rw [Classical.not_imp, Classical.not_imp] at hm
          exact ⟨m, ⟨hm.1, hm.2.1⟩, by simpa using hm.2.2⟩
        obtain ⟨m, h1, h2⟩ := this
        clear hfull
        induction m using Nat.strongRecOn with
        | _ m ihm =>
          by_cases h : ∃ i, i < m ∧ fb i = true ∧ listed.getD i false = false
          · obtain ⟨i, hi, hfi, hi2⟩ := h
            exact ihm i hi ⟨by omega, hfi⟩ hi2
          · refine ⟨m, h1, h2, fun i hi hfi => ?_⟩
            cases hv : listed.getD i false with
            | true => rfl
            | false => exact absurd ⟨i, hi, hfi, hv⟩ h
      have hgt : ∀ i, i < l.length → ∀ d, listed.getD i d = listed.getD i false := fun i hi d => by
        rw [Array.getD_eq_getD_getElem?, Array.getD_eq_getD_getElem?, Array.getElem?_eq_getElem (by omega)]
        rfl
      obtain ⟨om, hom⟩ : ∃ o, l[m]? = some o := ⟨_, List.getElem?_eq_getElem hmN.1⟩
      have hmdeps : ∀ e ∈ om.after, Region.binds md e = true → listed.getD e.on false = true := fun e he hb => by
        have := (grow8B_spec hB hom).2.2.1 e he hb
        exact hmin e.on this.1 (this.2 hmN.2)
      have hready : m ∈ Region.ready md l.toArray listed := by
        rw [mem_ready]
        exact ⟨by rw [hgt m hmN.1]; exact hmun, om, by simpa using hom, hmdeps⟩
      have go : ∀ (j : Nat) (o : Oper) v w', fb j = true → l[j]? = some o → listed.getD j false = false → (∀ e ∈ o.after, Region.binds md e = true → listed.getD e.on false = true) → I (fun i => listed.getD i false || i == j) (fun i => if i = j then v else vs i) w' → wpAny P md l.toArray Q fuel (listed.setIfInBounds j true) ((stL l 0 (fun i => listed.getD i false) vs a).put o.dst v) w' := by
        intro j o v w' hjN ho h1 h2 hI
        obtain ⟨_, _, _, hall⟩ := grow8B_spec hB ho
        have hlt := (List.getElem?_eq_some_iff.1 ho).1
        have hadd := stL_add l 0 j (fun i => listed.getD i false) vs a o v ho (by rw [Nat.zero_add]; exact h1) (fun i o' hi hne d hd => (hall i o' hi).1 (fun e => hne e.symm) d hd)
        simp only [Nat.zero_add] at hadd
        have hget : ∀ i, (listed.setIfInBounds j true).getD i false = (listed.getD i false || i == j) := fun i => by
          by_cases e : j = i
          · subst e
            rw [Array.getD_eq_getD_getElem?, Array.getElem?_setIfInBounds_self_of_lt (by omega)]
            simp
          · rw [getD_set_ne false e]
            have : (i == j) = false := by simp; exact fun h => e h.symm
            rw [this, Bool.or_false]
        rw [← hadd, ← stL_congr l 0 (fun i => (listed.setIfInBounds j true).getD i false) _ (fun i => if i = j then v else vs i) _ a (fun i _ _ => ⟨hget i, fun _ => rfl⟩)]
        refine ih (listed.setIfInBounds j true) w' (fun i => if i = j then v else vs i) ?_ (by simpa using hsz) (fun i hi hNi => ?_) (fun i o' ho' hi e he hb => ?_) (by rw [show (fun i => (listed.setIfInBounds j true).getD i false) = (fun i => listed.getD i false || i == j) from funext hget]; exact hI)
        · have := cnt_set l.length (fun i => !listed.getD i false) (fun i => !(listed.setIfInBounds j true).getD i false) j hlt (by rw [h1]; rfl) (by rw [hget]; simp) (fun i hi => by rw [hget]; simp [hi])
          omega
        · rw [hget, ht i hi hNi]
          have : (i == j) = false := by
            simp
            intro e
            subst e
            rw [hjN] at hNi; cases hNi
          rw [this]; rfl
        · rw [hget] at hi ⊢
          rcases Bool.or_eq_true_iff.1 hi with hi | hi
          · rw [hcl i o' ho' hi e he hb]; rfl
          · have : i = j := by simpa using hi
            subst this
            rw [ho] at ho'
            injection ho' with ho'
            subst ho'
            rw [h2 e he hb]; rfl
      have dl : ∀ o, (∀ e ∈ o.after, Region.binds md e = true → listed.getD e.on false = true) → ∀ i, depsB md o i = true → listed.getD i false = true := fun o h2 i hi => by
        obtain ⟨e, he, hb, rfl⟩ := depsB_mem hi
        exact h2 e he hb
      have alike : ∀ (j : Nat) (o : Oper), l[j]? = some o → (∀ e ∈ o.after, Region.binds md e = true → listed.getD e.on false = true) → Alike2 o (stL l 0 (fun i => listed.getD i false) vs a) (stL l 0 (depsB md o) vs a) := by
        intro j o ho h2
        obtain ⟨_, _, hdep, hall⟩ := grow8B_spec hB ho
        refine stL_alike l 0 _ _ vs a a (fun i o' hi hne d hd => ?_) ⟨rfl, fun _ _ => rfl⟩
        rw [Nat.zero_add] at hne
        refine (hall i o' hi).2.1 (.inl ?_) ?_ d hd
        · cases hfi : fb i with
          | true => rfl
          | false =>
            have hil := (List.getElem?_eq_some_iff.1 hi).1
            have h0 := ht i hil hfi
            cases hdp : depsB md o i with
            | true => rw [dl o h2 i hdp] at h0; cases h0
            | false => rw [h0, hdp] at hne; exact absurd rfl hne
        cases hdp : depsB md o i with
        | false => rfl
        | true => rw [dl o h2 i hdp, hdp] at hne; exact absurd rfl hne
      obtain ⟨o0, ho0⟩ : ∃ o, l[m]? = some o := ⟨_, List.getElem?_eq_getElem hmN.1⟩
      refine ⟨fun h0 => absurd hready (by rw [h0]; simp), fun j hj => ?_⟩
      obtain ⟨h1, o, ho', h2⟩ := mem_ready.1 hj
      have ho : l[j]? = some o := by simpa using ho'
      have hlt := (List.getElem?_eq_some_iff.1 ho).1
      rw [hgt j hlt] at h1
      obtain ⟨hg, hdst, hdep, hall⟩ := grow8B_spec hB ho
      have hjN : fb j = true := by
        cases hfj : fb j with
        | true => rfl
        | false =>
          rcases ((hall m o0 ho0).2.2 hfj).1 hmN.2 with h3 | h3
          · cases h3
          · have := anc_listed hcl _ _ _ _ ho h2 h3
            rw [hmun] at this; cases this
      have hstep := stepsI_at l 0 j o hs ho (by rw [Nat.zero_add]; exact hjN) (fun i => listed.getD i false) vs w (by rw [Nat.zero_add]; exact h1) (dl o h2) hC
      simp only [Nat.zero_add] at hstep
      have hw : Region.wanted o (yielded l.toArray (stL l 0 (fun i => listed.getD i false) vs a).tmps) = true := by simp [Region.wanted, hg]
      unfold wpOp
      simp only [ho', hw, if_true]
      left
      exact wp_move_frame hg (fun cs b => hsel j o cs b ho') (alike j o ho h2) (fun d hd => by rw [stL_size]; exact hdst d hd) hstep (fun v w' h => go j o v w' hjN ho h1 h2 h)
end
theorem wp_region_growI {P : Program} {id : Nat} {Q : Exit → Act → World → Prop} {a : Act} {w : World} {l : List Oper} (fb : Nat → Bool) (I : (Nat → Bool) → (Nat → Value) → World → Prop) (hm : P.follows .mixedOrders = true) (hB : grow8B .any fb (fun _ => false) a.tmps.size l = true)
    (hI : I (fun _ => false) (fun _ => undef) w.drew) (hs : stepsI P .any l fb a I 0 l)
    (hf : ∀ S vs w', (∀ i, i < l.length → S i = fb i) → I S vs w' → wpList P l.toArray (fun e b w => e = .normal ∧ Q .normal b w) (((List.range l.length).filter fun i => !fb i).filterMap fun i => l[i]?) (stL l 0 fb vs a) w') : (Code.region id l.toArray true).wp P Q a w := by
  refine Code.wp_mono (Q := fun e b w => e = .normal ∧ Q .normal b w) (fun e b w h => by obtain ⟨rfl, h⟩ := h; exact h) ?_
  refine wp_region_any hm ?_
  have hn : ∀ i, (Array.replicate l.toArray.size false).getD i false = false := fun i => by
    simp [Array.getD_eq_getD_getElem?, Array.getElem?_replicate]
    split <;> rfl
  have h0 : stL l 0 (fun i => (Array.replicate l.toArray.size false).getD i false) (fun _ => undef) a = a := by
    rw [stL_congr l 0 _ (fun _ => false) (fun _ => undef) (fun _ => undef) a (fun i _ hi => ⟨hn i, fun _ => rfl⟩)]
    exact stL_none _ _ _ _
  have := wpAny_growI (Q := fun e b w => e = .normal ∧ Q .normal b w) (I := I) (fun c a w h => absurd h.1 (by simp)) hB hs hf l.toArray.size (Array.replicate l.toArray.size false) w.drew (fun _ => undef) (by
    rw [List.countP_eq_length.2 (fun i hi => by rw [hn]; rfl)]
    simp) (by simp) (fun i hi _ => hn i) (fun i o _ h => by rw [hn] at h; cases h) (by rw [show (fun i => (Array.replicate l.toArray.size false).getD i false) = (fun _ => false) from funext hn]; exact hI)
  rw [h0] at this
  exact this
end Go.Proofs.YtgdccmmcjicgkaaDoor
end
