/- Several texts in one: S30 S36 S38 S40. -/
import Derived.Test.YtgdccmmcjicgkaaDoorsS29
import Derived.Test.YtgdccmmcjicgkaaDoorsS1toE21
import Derived.Test.YtgdccmmcjicgkaaDoorsS28
import Derived.Test.YtgdccmmcjicgkaaDoorsS7
set_option linter.unusedVariables false
set_option linter.unusedSimpArgs false
section
namespace Go.Proofs.YtgdccmmcjicgkaaDoor
open Go.RowKit
def RetRunR (w : World) (d : PrgD) (m : Mac) (xs : List Int) (e : Ending) (w' : World) : Prop := ∃ (A : Option Addr) (c : Nat) (z : MacA), z.m = runM d m xs ∧ e = .returned (.tuple #[.slice A (runO d m xs).length c, z.v, .int .i64 (runV d m xs), .int .i64 0]) ∧ Own w.heap.size w' (.slice A (runO d m xs).length c) (runO d m xs) ∧ MacAt w' z ∧ MacF w.heap.size w' z ∧ Below w.heap.size w w'
theorem RetRunS.toR {w : World} {d : PrgD} {m : Mac} {xs : List Int} {e : Ending} {w' : World} (h : RetRunS w d m xs e w') : RetRunR w d m xs e w' := by
  obtain ⟨vo, vg, vm, vh, e1, ho, hm, hb⟩ := h
  obtain ⟨A, c, rfl, -⟩ := own_form ho.1
  obtain ⟨A1, c1, rfl, -⟩ := own_form hm.regs.1
  obtain ⟨A2, c2, rfl, -⟩ := own_form hm.mem.1
  obtain ⟨A3, c3, rfl, -⟩ := own_form hm.heads.1
  exact ⟨A, c, ⟨runM d m xs, A1, A2, A3, c1, c2, c3⟩, rfl, e1, ho, ⟨hm.regs.ints, hm.mem.ints, hm.heads.ints⟩, ⟨fun _ => own_ty hm.regs, fun _ => own_ty hm.mem, fun _ => own_ty hm.heads⟩, hb⟩
theorem sm_RunR (u : PrgA) (x : MacA) (XA : Option Addr) (xn xc : Nat) (xs : List Int) (w : World) (hf : FormsAt w) (hp : PrgAt w u) (hx : MacAt w x) (hi : Ints w XA xs) (hm : macB u.d x.m = true) (hw : wordD u.d xs = true) (hn : xs.length = xn) (h4 : xn ≤ 4096) :
    Calls Tryd.prog 24 #[u.v, x.v, .slice XA xn xc] w (RetRunR w u.d x.m xs) := (sm_Run u x XA xn xc xs w hf hp hx hi hm hw hn h4).mono fun _ _ h => h.toR
end Go.Proofs.YtgdccmmcjicgkaaDoor
end
section
namespace Go.Proofs.YtgdccmmcjicgkaaDoor
open Go.RowKit
def spC (W : World) (g : Nat) (w : World) : Prop := W.grownBy w (some g) ∧ ∃ M : List Value, Box w g M ∧ M.length = 5
def spG (g : Nat) (L : List Value) (a b : World) : Prop := a.grownBy b (some g) ∧ (Box a g L → Box b g L) ∧ ((∃ M : List Value, Box a g M ∧ M.length = 5) → ∃ M : List Value, Box b g M ∧ M.length = 5)
theorem spG.refl (g : Nat) (L : List Value) (a : World) : spG g L a a := ⟨World.grownBy.refl _ _, id, id⟩
def spF (z : MacA) (o V : Int) (ov : Bool) (g q c : Nat) : Nat → Value → World → Prop
  | 0, v, _ => v = .agg z.lst.toArray
  | 1, v, _ => v = .slice (some ⟨q, 0, none⟩) 1 c
  | 2, v, _ => v = .pointer (some ⟨q, 0, none⟩)
  | 3, v, _ => v = .int .i64 o
  | 4, v, _ => v = .int .i64 V
  | 5, v, _ => v = .bool ov
  | 6, _, w => Box w g z.lst
  | _, _, _ => True
theorem spF_keep {z : MacA} {o V : Int} {ov : Bool} {g q c : Nat} {w w' : World} (h : spG g z.lst w w') : ∀ i v, spF z o V ov g q c i v w → spF z o V ov g q c i v w'
  | 0, _, e | 1, _, e | 2, _, e | 3, _, e | 4, _, e | 5, _, e => e
  | 6, _, e => h.2.1 e
  | n + 7, _, e => e
set_option maxRecDepth 100000 in
set_option maxHeartbeats 8000000 in
theorem sm_Sample (u : PrgA) (x : MacA) (y : Int) (w : World) (hf : FormsAt w) (hp : PrgAt w u) (hx : MacAt w x) (hm : macB u.d x.m = true) (hy : fitsW u.d.d0 u.d.d1 u.d.d2 u.d.d3 y = true) (hy9 : I64 y) :
    Calls Tryd.prog 28 #[u.v, x.v, .int .i64 y] w (RetSmp w u.d x.m y) := by
  obtain ⟨o, ho⟩ : ∃ o, (sampF u.d y x.m u.d.code).out = o := ⟨_, rfl⟩
  obtain ⟨ov, hov⟩ : ∃ o, (sampF u.d y x.m u.d.code).ov = o := ⟨_, rfl⟩
  obtain ⟨V, hV⟩ : ∃ o, runV u.d x.m [y] = o := ⟨_, rfl⟩
  have hV2 : V = if ov = true then 1 else 0 := by
    rw [← hV, ← hov]
    show ovN u.d y x.m + 0 = _
    unfold ovN
    rw [Int.add_zero]
  have dV : decide (0 < V) = ov := by rw [hV2]; cases ov <;> rfl
  have CR : Hid (∀ w1 A c, Below w.heap.size w w1 → Ints w1 A [y] → Calls Tryd.prog 24 #[.agg u.lst.toArray, .agg x.lst.toArray, .slice A 1 c] w1 fun e w' => ∃ (A : Option Addr) (c : Nat) (z : MacA), z.m = macN u.d y x.m ∧ e = .returned (.tuple #[.slice A 1 c, .agg z.lst.toArray, .int .i64 V, .int .i64 0]) ∧ Own w1.heap.size w' (.slice A 1 c) [o] ∧ MacAt w' z ∧ MacF w1.heap.size w' z ∧ Below w1.heap.size w1 w') := Lib.hid fun w1 A c hb hi => by
    have h := sm_RunR u x A 1 c [y] w1 (hf.grow hb) (hp.grow hb) (hx.grow hb) hi hm (by
      unfold wordD wordsB
      show (fitsW u.d.d0 u.d.d1 u.d.d2 u.d.d3 y && true) = true
      rw [hy]; rfl) rfl (by omega)
    unfold RetRunR at h
    rw [hV, show runO u.d x.m [y] = [o] by rw [← ho]; rfl] at h
    exact h
  have HS : Hid ((sampF u.d y x.m u.d.code).out = o ∧ (sampF u.d y x.m u.d.code).ov = ov) := Lib.hid ⟨ho, hov⟩
  have HY := Lib.hid hy9
  have ev : u.v = .agg u.lst.toArray := rfl
  have em : x.v = .agg x.lst.toArray := rfl
  rw [ev, em]
  clear ev em hf hp hx hm hy ho hov hV hV2 hy9
  go_enter Tryd.func28, Tryd.ntmps28
  go_upto_region 1 with fail
  obtain ⟨bp, bm, br, hb0⟩ := entry3R w u.lst x.lst zeros5 _ rfl
  change Code.wp _ _ _ _ (((w.alloc (.cells u.lst.toArray 43)).alloc (.cells x.lst.toArray 46)).alloc (.cells zeros5.toArray 46))
  generalize (((w.alloc (.cells u.lst.toArray 43)).alloc (.cells x.lst.toArray 46)).alloc (.cells zeros5.toArray 46)) = W0 at bp bm br hb0 ⊢
  have HB0 := Lib.hid hb0
  have HP0 := Lib.hid bp
  have HM0 := Lib.hid bm
  have HR0 := Lib.hid br
  clear hb0 bp bm br
  go_upto_region 4 with (first
    | ((with_reducible show wpList _ _ _ (Oper.mk _ (.load 43 _) _ _ _ _ :: _) _ _); refine ld_prg HP0.out (lst_ten u) rfl _ rfl rfl ?_)
    | ((with_reducible show wpList _ _ _ (Oper.mk _ (.load 46 _) _ _ _ _ :: _) _ _); refine ld_mac HM0.out rfl rfl _ rfl rfl ?_)
    | (go_at_call 24; (with_reducible refine (CR.out _ _ _ (HB0.out.alloc HB0.out.size _) (lit_one HY.out)).mono ?_); rintro e1 w1 ⟨A1, c1, z, hz, rfl, ho1, ha1, hf1, hb1⟩)
    | ((with_reducible show wpList _ _ _ (Oper.mk _ (.store 46 _ _) _ _ _ _ :: _) _ _); refine st_mac (L := z.lst) (Box.new (w := w1) (t := 46) (vs := zeros5.toArray) rfl) rfl rfl rfl rfl _ _ rfl rfl rfl ?_; intro W2 hb2 hg2))
  have hb12 := put_facts ((Below.refl w1.heap.size w1).alloc (Nat.le_refl _) (.cells zeros5.toArray 46)) (Nat.le_refl _) hg2
  have hb01 : Below W0.heap.size W0 w1 := below_then ((Below.refl W0.heap.size W0).alloc (Nat.le_refl _) (.cells #[.int .i64 y] 3)) hb1
  have hsz : W0.heap.size ≤ (W0.alloc (.cells #[.int .i64 y] 3)).heap.size := by simp
  have hB2 := below_then HB0.out (below_then hb01 hb12)
  have hr2 := HR0.out.keep (below_then hb01 hb12)
  have ho2 := ho1.grow hb12
  have ha2 := ha1.grow hb12
  have hf2 := hf1.grow hb12
  obtain ⟨q, c', eq, -⟩ : ∃ q c', (.slice A1 1 c1 : Value) = .slice (some ⟨q, 0, none⟩) 1 c' ∧ True := by
    obtain ⟨q, c', e⟩ := own_some ho2 (by show 0 < 1; omega)
    exact ⟨q, c', e, trivial⟩
  injection eq with eA eN eC
  subst eA eC
  have hg6 : w.heap.size + 2 < W0.heap.size := HR0.out.1
  have hqg : q ≠ w.heap.size + 2 := by
    have h1 := own_ge ho2 q rfl
    omega
  have hnw : w1.heap.size ≠ w.heap.size + 2 := by have := hb01.size; omega
  have HB2 := Lib.hid hB2
  have HO2 := Lib.hid ho2
  have HZ := Lib.hid hz
  have HE2 := Lib.hid hb2
  have HA2 := Lib.hid ha2
  have HF2 := Lib.hid hf2
  have HSZ := Lib.hid hsz
  have HBZ : Hid (w.heap.size ≤ (W0.alloc (.cells #[.int .i64 y] 3)).heap.size) := Lib.hid (Nat.le_trans HB0.out.size hsz)
  clear hb1 hb12 hb01 hsz hB2 ho1 ho2 ha1 ha2 hf1 hf2 hz hb2 hg2 HB0 HP0 HM0 HR0 CR
  obtain ⟨g6, hg6e⟩ : ∃ g, w.heap.size + 2 = g := ⟨_, rfl⟩
  have HGW : Hid (w.heap.size + 2 = g6) := Lib.hid hg6e
  rw [hg6e] at hr2 hg6 hqg hnw ⊢
  have HR2 := Lib.hid hr2
  clear hr2 hg6e
  generalize w1.heap.size = ge at HE2 hnw ⊢
  refine wp_region_grow8 (fun i => Nat.blt i 7) (fun i => Nat.beq i 4 || Nat.beq i 5) (spC W2 g6) (spG g6 z.lst) (spF z o V ov g6 q c1) (by kernel_rfl) (by kernel_rfl) ⟨drew_grown _ _, _, HR2.out.keep (drew_belowS _), rfl⟩ (fun a b h1 h2 => ⟨⟨h1.1.trans h2.1, h2.2.2 h1.2⟩, fun i _ v => spF_keep h2 i v⟩) (fun w _ => spG.refl _ _ _) ?_ ?_ ?_
  · refine ⟨?_, ?_, ?_, ?_, ?_, ?_, ?_, trivial⟩
    all_goals
      intro vs w5 hp hF
      have HWX : Hid (Box w5 ge z.lst) := Lib.hid (HE2.out.grown hp.1 (fun e => hnw (by injection e)))
      have HOX := Lib.hid (own_keptI HO2.out hp.1 (fun e => hqg (by injection e)))
      obtain ⟨MX, hMX, hM5⟩ := hp.2
      have HMX := Lib.hid hMX
      have HM5 := Lib.hid hM5
      clear hp hMX hM5
      simp [depsB, Region.binds, spF] at hF
      simp [stL, depsB, Region.binds, Act.put, hF]
    · refine ld_mac HWX.out rfl rfl _ rfl rfl ?_
      exact wpList_nil ⟨rfl, _, rfl, rfl, spG.refl _ _ _⟩
    · go_wp2_with fail
      exact ⟨rfl, spG.refl _ _ _⟩
    · go_wp2_with fail
      exact ⟨rfl, spG.refl _ _ _⟩
    · have y0 : w5.cell? ⟨q, 0, none⟩ = some (.int .i64 o) := own_getD HOX.out (k := 0) (by show 0 < 1; omega)
      go_wp2_with fail
      exact ⟨rfl, spG.refl _ _ _⟩
    · go_wp2_with fail
      exact ⟨rfl, spG.refl _ _ _⟩
    · go_wp2_with fail
      exact ⟨rfl, spG.refl _ _ _⟩
    · refine st_mac (L := z.lst) HMX.out HM5.out rfl rfl rfl _ _ rfl rfl rfl ?_
      intro W6 hb6 hg6'
      exact wpList_nil ⟨rfl, rfl, ⟨undef, hb6⟩, hg6', fun _ => hb6, fun _ => ⟨_, hb6, rfl⟩⟩
  · intro j op hop _ hl
    have hj : j = 4 ∨ j = 5 := by simpa using hl
    intro vs w5 hC hF
    rcases hj with rfl | rfl
    all_goals
      injection hop with hop
      subst hop
    · exact ⟨.int .i64 V, fun w' => by simp [execOp, stL, depsB, Region.binds, go_sem, Act.put], rfl⟩
    · have h4 : vs 4 = .int .i64 V := hF 4 (by decide)
      exact ⟨.bool ov, fun w' => by simp [execOp, stL, depsB, Region.binds, go_sem, Act.put, h4, dV], rfl⟩
  intro vs w5 hC hF
  have e3 : vs 3 = .int .i64 o := hF 3 (by decide) rfl
  have e5 : vs 5 = .bool ov := hF 5 (by decide) rfl
  have h6 : Box w5 g6 z.lst := hF 6 (by decide) rfl
  have HG5 := Lib.hid hC.1
  have H6 := Lib.hid h6
  clear hF hC h6
  show wpList Tryd.prog _ _ [_, _, _] _ _
  simp [stL, Act.put, e3, e5]
  go_wp2_with fail
  obtain ⟨dsc, hd1, hd2⟩ := row_mac
  refine bodyPost_ret (resCTTT rfl _ _ w5 (g := g6) (v := .agg z.lst.toArray) rfl (res_box _ H6.out dsc hd1 hd2 size_mac)) rfl ?_
  obtain ⟨ha5, hf5⟩ := HA2.out.kept HF2.out HG5.out (Nat.lt_of_lt_of_le hg6 HSZ.out)
  refine ⟨z, HZ.out, ?_, ha5, hf5.mono HBZ.out, grown_toI HB2.out HG5.out (by rw [← HGW.out]; omega)⟩
  rw [HS.out.1, HS.out.2]
  rfl
end Go.Proofs.YtgdccmmcjicgkaaDoor
end
section
namespace Go.Proofs.YtgdccmmcjicgkaaDoor
open Go.RowKit
def smpE (d : PrgD) (m : Mac) (y : Int) : Int := if validB d = true then if macB d m = true then if fitsW d.d0 d.d1 d.d2 d.d3 y = true then 0 else 17 else 1 else 21
set_option maxRecDepth 100000 in
set_option maxHeartbeats 8000000 in
theorem sm_RunE (u : PrgA) (x : MacA) (A : Option Addr) (c : Nat) (y : Int) (w : World) (hf : FormsAt w) (hp : PrgAt w u) (hx : MacAt w x) (hr9 : u.d.rg.length ≤ 9223372036854775807) (hc9 : u.d.code.length ≤ 9223372036854775807) (hm9 : MacLen x.m) (hi : Ints w A [y]) (he : smpE u.d x.m y ≠ 0) :
    Calls Tryd.prog 24 #[u.v, x.v, .slice A 1 c] w fun e w' => e = .returned (.tuple #[.slice none 0 0, .agg zeros5.toArray, .int .i64 0, .int .i64 (smpE u.d x.m y)]) ∧ Below w.heap.size w w' := by
  obtain ⟨V, hV⟩ : ∃ b, validB u.d = b := ⟨_, rfl⟩
  obtain ⟨R, hR⟩ : ∃ b, macB u.d x.m = b := ⟨_, rfl⟩
  obtain ⟨Y, hY⟩ : ∃ b, fitsW u.d.d0 u.d.d1 u.d.d2 u.d.d3 y = b := ⟨_, rfl⟩
  have CV : Hid (∀ w1, Below w.heap.size w w1 → Calls Tryd.prog 43 #[.agg u.lst.toArray] w1 fun e w' => e = .returned (.bool V) ∧ Below w1.heap.size w1 w') := Lib.hid fun w1 hb => pr_Valid u w1 (hf.grow hb) (hp.grow hb) hr9 hc9 hV
  have CM : Hid (∀ w1, Below w.heap.size w w1 → Calls Tryd.prog 39 #[.agg u.lst.toArray, .agg x.lst.toArray] w1 fun e w' => e = .returned (.bool R) ∧ Below w1.heap.size w1 w') := Lib.hid fun w1 hb => sm_Valid u x w1 (hf.grow hb) (hp.grow hb) (hx.grow hb) hr9 hc9 hm9 hR
  have HY := Lib.hid hY
  have HI := Lib.hid hi
  have HU : Hid (∀ E, smpE u.d x.m y = E → smpE u.d x.m y = E) := Lib.hid fun _ h => h
  have hee : smpE u.d x.m y = if V = true then if R = true then if Y = true then 0 else 17 else 1 else 21 := by unfold smpE; rw [hV, hR, hY]
  obtain ⟨dsc, hd1, hd2⟩ := row_mac
  have ev : u.v = .agg u.lst.toArray := rfl
  have em : x.v = .agg x.lst.toArray := rfl
  rw [ev, em]
  clear ev em
  clear hf hp hx hV hR hY hr9 hc9 hm9 hi HU
  go_enter Tryd.func24, Tryd.ntmps24
  go_upto_region 1 with fail
  obtain ⟨bp, bm, br, hb0⟩ := entry3R w u.lst x.lst zeros5 _ rfl
  change Code.wp _ _ _ _ (((w.alloc (.cells u.lst.toArray 43)).alloc (.cells x.lst.toArray 46)).alloc (.cells zeros5.toArray 46))
  generalize (((w.alloc (.cells u.lst.toArray 43)).alloc (.cells x.lst.toArray 46)).alloc (.cells zeros5.toArray 46)) = W0 at bp bm br hb0 ⊢
  have HB0 := Lib.hid hb0
  have HP0 := Lib.hid bp
  have HM0 := Lib.hid bm
  have HR0 := Lib.hid br
  clear hb0 bp bm br
  cases V with
  | false =>
    have HE : Hid (smpE u.d x.m y = 21) := Lib.hid (hee.trans rfl)
    clear hee he
    go_wp2_with (first
    | ((with_reducible show wpList _ _ _ (Oper.mk _ (.load 43 _) _ _ _ _ :: _) _ _); first | refine ld_prg HP0.out (lst_ten u) rfl _ rfl rfl ?_ | refine ld_prg (HP0.out.keep hb1) (lst_ten u) rfl _ rfl rfl ?_)
    | ((with_reducible show wpList _ _ _ (Oper.mk _ (.load 46 _) _ _ _ _ :: _) _ _); refine ld_mac (HM0.out.keep hb1) rfl rfl _ rfl rfl ?_)
    | (go_at_call 43; (with_reducible refine (CV.out _ HB0.out).mono ?_); rintro e1 w1 ⟨rfl, hb1⟩; have hbb := hb1)
    | (go_at_call 39; (with_reducible refine (CM.out _ (below_then HB0.out hb1)).mono ?_); rintro e2 w2 ⟨rfl, hb2⟩; have hbb := below_then hb1 hb2)
    | ((with_reducible show wpList _ _ _ (Oper.mk _ (.build _ _) _ _ _ _ :: _) _ _); refine wp_bldR rfl 46 _ rfl _ rfl built_mac0 ?_)
    | ((with_reducible show wpList _ _ _ (Oper.mk _ (.store 46 _ _) _ _ _ _ :: _) _ _); refine st_mac (L := zeros5) (HR0.out.keep hbb) rfl rfl rfl rfl _ _ rfl rfl rfl ?_; intro w9 hb9 hg9))
    refine bodyPost_ret (resTCTT rfl _ _ w9 (g := w.heap.size + 2) (v := .agg zeros5.toArray) rfl (res_box _ hb9 dsc hd1 hd2 size_mac)) rfl ?_
    refine ⟨?_, grown_toI (below_then HB0.out hbb) hg9 (by omega)⟩
    rw [HE.out]
    rfl
  | true =>
    cases R with
    | false =>
      have HE : Hid (smpE u.d x.m y = 1) := Lib.hid (hee.trans rfl)
      clear hee he
      go_wp2_with (first
    | ((with_reducible show wpList _ _ _ (Oper.mk _ (.load 43 _) _ _ _ _ :: _) _ _); first | refine ld_prg HP0.out (lst_ten u) rfl _ rfl rfl ?_ | refine ld_prg (HP0.out.keep hb1) (lst_ten u) rfl _ rfl rfl ?_)
    | ((with_reducible show wpList _ _ _ (Oper.mk _ (.load 46 _) _ _ _ _ :: _) _ _); refine ld_mac (HM0.out.keep hb1) rfl rfl _ rfl rfl ?_)
    | (go_at_call 43; (with_reducible refine (CV.out _ HB0.out).mono ?_); rintro e1 w1 ⟨rfl, hb1⟩; have hbb := hb1)
    | (go_at_call 39; (with_reducible refine (CM.out _ (below_then HB0.out hb1)).mono ?_); rintro e2 w2 ⟨rfl, hb2⟩; have hbb := below_then hb1 hb2)
    | ((with_reducible show wpList _ _ _ (Oper.mk _ (.build _ _) _ _ _ _ :: _) _ _); refine wp_bldR rfl 46 _ rfl _ rfl built_mac0 ?_)
    | ((with_reducible show wpList _ _ _ (Oper.mk _ (.store 46 _ _) _ _ _ _ :: _) _ _); refine st_mac (L := zeros5) (HR0.out.keep hbb) rfl rfl rfl rfl _ _ rfl rfl rfl ?_; intro w9 hb9 hg9))
      refine bodyPost_ret (resTCTT rfl _ _ w9 (g := w.heap.size + 2) (v := .agg zeros5.toArray) rfl (res_box _ hb9 dsc hd1 hd2 size_mac)) rfl ?_
      refine ⟨?_, grown_toI (below_then HB0.out hbb) hg9 (by omega)⟩
      rw [HE.out]
      rfl
    | true =>
      cases Y with
      | true => exact absurd (hee.trans rfl) he
      | false =>
        have HE : Hid (smpE u.d x.m y = 17) := Lib.hid (hee.trans rfl)
        clear hee he
        go_upto_region 7 with (first
    | ((with_reducible show wpList _ _ _ (Oper.mk _ (.load 43 _) _ _ _ _ :: _) _ _); first | refine ld_prg HP0.out (lst_ten u) rfl _ rfl rfl ?_ | refine ld_prg (HP0.out.keep hb1) (lst_ten u) rfl _ rfl rfl ?_)
    | ((with_reducible show wpList _ _ _ (Oper.mk _ (.load 46 _) _ _ _ _ :: _) _ _); refine ld_mac (HM0.out.keep hb1) rfl rfl _ rfl rfl ?_)
    | (go_at_call 43; (with_reducible refine (CV.out _ HB0.out).mono ?_); rintro e1 w1 ⟨rfl, hb1⟩; have hbb := hb1)
    | (go_at_call 39; (with_reducible refine (CM.out _ (below_then HB0.out hb1)).mono ?_); rintro e2 w2 ⟨rfl, hb2⟩; have hbb := below_then hb1 hb2)
    | ((with_reducible show wpList _ _ _ (Oper.mk _ (.build _ _) _ _ _ _ :: _) _ _); refine wp_bldR rfl 46 _ rfl _ rfl built_mac0 ?_)
    | ((with_reducible show wpList _ _ _ (Oper.mk _ (.store 46 _ _) _ _ _ _ :: _) _ _); refine st_mac (L := zeros5) (HR0.out.keep hbb) rfl rfl rfl rfl _ _ rfl rfl rfl ?_; intro w9 hb9 hg9))
        have HB2 := Lib.hid (below_then HB0.out hbb)
        have HP2 := Lib.hid (HP0.out.keep hbb)
        have HR2 := Lib.hid (HR0.out.keep hbb)
        clear hb1 hb2 hbb HB0 HP0 HM0 HR0 CV CM
        go_upto_block 0 with fail
        go_wp2_with fail
        go_loopw [38] (fun y wr => y = .int .i64 0 ∧ Hid (Below w.heap.size w wr) ∧ Hid (Box wr w.heap.size u.lst) ∧ Hid (Box wr (w.heap.size + 2) zeros5)) (fun y _ => 0)
        case atStart => exact ⟨rfl, HB2, HP2, HR2⟩
        case round =>
          obtain ⟨rfl, HB0, HPk, HR0⟩ := hrel
          obtain ⟨ad, y', rfl, hbk, hy, hc, i1, i2⟩ := (HI.out.grow HB0.out).at_ (k := 0) (by show 0 < 1; omega)
          replace hc : wr.cell? ad = some (.int .i64 y') := by simpa [Addr.add] using hc
          have eyy : y' = y := by injection hy with hy; exact hy.symm
          subst eyy
          have x0 : wr.cell? ⟨w.heap.size, 0, none⟩ = some (.int .i64 u.d.d0) := HPk.out.2.1 0
          have x1 : wr.cell? ⟨w.heap.size, 1, none⟩ = some (.int .i64 u.d.d1) := HPk.out.2.1 1
          have x2 : wr.cell? ⟨w.heap.size, 2, none⟩ = some (.int .i64 u.d.d2) := HPk.out.2.1 2
          have x3 : wr.cell? ⟨w.heap.size, 3, none⟩ = some (.int .i64 u.d.d3) := HPk.out.2.1 3
          clear hbk hy
          go_wp2_with (first
            | (go_at_call 58; (with_reducible refine (fits_is HY.out _).mono ?_); rintro e1 w3 ⟨rfl, hbb⟩)
            | ((with_reducible show wpList _ _ _ (Oper.mk _ (.build _ _) _ _ _ _ :: _) _ _); refine wp_bldR rfl 46 _ rfl _ rfl built_mac0 ?_)
            | ((with_reducible show wpList _ _ _ (Oper.mk _ (.store 46 _ _) _ _ _ _ :: _) _ _); refine st_mac (L := zeros5) (HR0.out.keep hbb) rfl rfl rfl rfl _ _ rfl rfl rfl ?_; intro w9 hb9 hg9))
          refine bodyPost_ret (resTCTT rfl _ _ w9 (g := w.heap.size + 2) (v := .agg zeros5.toArray) rfl (res_box _ hb9 dsc hd1 hd2 size_mac)) rfl ?_
          refine ⟨?_, grown_toI (below_then HB0.out hbb) hg9 (by omega)⟩
          rw [HE.out]
          rfl
set_option maxRecDepth 100000 in
set_option maxHeartbeats 8000000 in
theorem sm_SampleE (u : PrgA) (x : MacA) (y : Int) (w : World) (hf : FormsAt w) (hp : PrgAt w u) (hx : MacAt w x) (hr9 : u.d.rg.length ≤ 9223372036854775807) (hc9 : u.d.code.length ≤ 9223372036854775807) (hm9 : MacLen x.m) (hy9 : I64 y) (he : smpE u.d x.m y ≠ 0) :
    Calls Tryd.prog 28 #[u.v, x.v, .int .i64 y] w fun e w' => e = .returned (.tuple #[.agg zeros5.toArray, .int .i64 0, .bool false, .int .i64 (smpE u.d x.m y)]) ∧ Below w.heap.size w w' := by
  obtain ⟨E, hE⟩ : ∃ E, smpE u.d x.m y = E := ⟨_, rfl⟩
  have CR : Hid (∀ w1 A c, Below w.heap.size w w1 → Ints w1 A [y] → Calls Tryd.prog 24 #[.agg u.lst.toArray, .agg x.lst.toArray, .slice A 1 c] w1 fun e w' => e = .returned (.tuple #[.slice none 0 0, .agg zeros5.toArray, .int .i64 0, .int .i64 E]) ∧ Below w1.heap.size w1 w') := Lib.hid fun w1 A c hb hi => by
    have h := sm_RunE u x A c y w1 (hf.grow hb) (hp.grow hb) (hx.grow hb) hr9 hc9 hm9 hi he
    rw [hE] at h
    exact h
  rw [hE] at he ⊢
  have HY := Lib.hid hy9
  obtain ⟨dsc, hd1, hd2⟩ := row_mac
  have ev : u.v = .agg u.lst.toArray := rfl
  have em : x.v = .agg x.lst.toArray := rfl
  rw [ev, em]
  clear ev em
  clear hf hp hx hr9 hc9 hm9 hy9 hE
  go_enter Tryd.func28, Tryd.ntmps28
  go_upto_region 1 with fail
  obtain ⟨bp, bm, br, hb0⟩ := entry3R w u.lst x.lst zeros5 _ rfl
  change Code.wp _ _ _ _ (((w.alloc (.cells u.lst.toArray 43)).alloc (.cells x.lst.toArray 46)).alloc (.cells zeros5.toArray 46))
  generalize (((w.alloc (.cells u.lst.toArray 43)).alloc (.cells x.lst.toArray 46)).alloc (.cells zeros5.toArray 46)) = W0 at bp bm br hb0 ⊢
  have HB0 := Lib.hid hb0
  have HP0 := Lib.hid bp
  have HM0 := Lib.hid bm
  have HR0 := Lib.hid br
  clear hb0 bp bm br
  go_upto_region 2 with (first
    | ((with_reducible show wpList _ _ _ (Oper.mk _ (.load 43 _) _ _ _ _ :: _) _ _); refine ld_prg HP0.out (lst_ten u) rfl _ rfl rfl ?_)
    | ((with_reducible show wpList _ _ _ (Oper.mk _ (.load 46 _) _ _ _ _ :: _) _ _); refine ld_mac HM0.out rfl rfl _ rfl rfl ?_)
    | (go_at_call 24; (with_reducible refine (CR.out _ _ _ (HB0.out.alloc HB0.out.size _) (lit_one HY.out)).mono ?_); rintro e1 w1 ⟨rfl, hb1⟩)
    | ((with_reducible show wpList _ _ _ (Oper.mk _ (.store 46 _ _) _ _ _ _ :: _) _ _); refine st_mac (L := zeros5) (Box.new (w := w1) (t := 46) (vs := zeros5.toArray) rfl) rfl rfl rfl rfl _ _ rfl rfl rfl ?_; intro W2 hb2 hg2))
  have hb12 := put_facts ((Below.refl w1.heap.size w1).alloc (Nat.le_refl _) (.cells zeros5.toArray 46)) (Nat.le_refl _) hg2
  have hb02 : Below W0.heap.size W0 W2 := below_then (below_then ((Below.refl W0.heap.size W0).alloc (Nat.le_refl _) (.cells #[.int .i64 y] 3)) hb1) hb12
  have HB2 := Lib.hid (below_then HB0.out hb02)
  have HR2 := Lib.hid (HR0.out.keep hb02)
  clear hb1 hb12 hb02 hb2 hg2 HB0 HP0 HM0 HR0 CR
  have q0 : ¬ E = 0 := he
  have q1 : (E == 0) = false := by simpa using he
  have q2 : (E != 0) = true := by simpa using he
  have q3 : decide (E = 0) = false := decide_eq_false he
  go_wp2_with (first
    | ((with_reducible show wpList _ _ _ (Oper.mk _ (.build _ _) _ _ _ _ :: _) _ _); refine wp_bldR rfl 46 _ rfl _ rfl built_mac0 ?_)
    | ((with_reducible show wpList _ _ _ (Oper.mk _ (.store 46 _ _) _ _ _ _ :: _) _ _); refine st_mac (L := zeros5) HR2.out rfl rfl rfl rfl _ _ rfl rfl rfl ?_; intro w9 hb9 hg9))
  refine bodyPost_ret (resCTTT rfl _ _ w9 (g := w.heap.size + 2) (v := .agg zeros5.toArray) rfl (res_box _ hb9 dsc hd1 hd2 size_mac)) rfl ?_
  exact ⟨rfl, grown_toI HB2.out hg9 (by omega)⟩
end Go.Proofs.YtgdccmmcjicgkaaDoor
end
section
namespace Go.Proofs.YtgdccmmcjicgkaaDoor
open Go.RowKit
set_option maxRecDepth 100000 in
set_option maxHeartbeats 8000000 in
theorem r39_SampleE (u : PrgA) (x : MacA) (y : Int) (w : World) (hp : PrgAt w u) (hx : MacAt w x) (hr9 : u.d.rg.length ≤ 9223372036854775807) (hc9 : u.d.code.length ≤ 9223372036854775807) (hm9 : MacLen x.m) (he : smpE u.d x.m y ≠ 0) :
    Calls Tryd.prog 37 #[u.v, x.v, .int .i64 y] w fun e w' => e = .returned (.tuple #[.agg zeros5.toArray, .int .i64 0, .bool false, .int .i64 (smpE u.d x.m y)]) ∧ Below w.heap.size w w' := by
  obtain ⟨V, hV⟩ : ∃ b, validB u.d = b := ⟨_, rfl⟩
  obtain ⟨R, hR⟩ : ∃ b, macB u.d x.m = b := ⟨_, rfl⟩
  obtain ⟨Y, hY⟩ : ∃ b, fitsW u.d.d0 u.d.d1 u.d.d2 u.d.d3 y = b := ⟨_, rfl⟩
  have CV : Hid (∀ w1, Below w.heap.size w w1 → Calls Tryd.prog 29 #[.agg u.lst.toArray] w1 fun e w' => e = .returned (.bool V) ∧ Below w1.heap.size w1 w') := Lib.hid fun w1 hb => r38_Valid u w1 (hp.grow hb) hr9 hc9 hV
  have CM : Hid (∀ w1, Below w.heap.size w w1 → Calls Tryd.prog 40 #[.agg u.lst.toArray, .agg x.lst.toArray] w1 fun e w' => e = .returned (.bool R) ∧ Below w1.heap.size w1 w') := Lib.hid fun w1 hb => r39_Valid u x w1 (hp.grow hb) (hx.grow hb) hr9 hc9 hm9 hR
  have HY := Lib.hid hY
  have hee : smpE u.d x.m y = if V = true then if R = true then if Y = true then 0 else 17 else 1 else 21 := by unfold smpE; rw [hV, hR, hY]
  obtain ⟨dsc, hd1, hd2⟩ := row_mac
  have ev : u.v = .agg u.lst.toArray := rfl
  have em : x.v = .agg x.lst.toArray := rfl
  rw [ev, em]
  clear ev em hp hx hV hR hY hr9 hc9 hm9
  go_enter Tryd.func37, Tryd.ntmps37
  go_upto_region 1 with fail
  obtain ⟨bp, bm, br, hb0⟩ := entry3R w u.lst x.lst zeros5 _ rfl
  change Code.wp _ _ _ _ (((w.alloc (.cells u.lst.toArray 43)).alloc (.cells x.lst.toArray 46)).alloc (.cells zeros5.toArray 46))
  generalize (((w.alloc (.cells u.lst.toArray 43)).alloc (.cells x.lst.toArray 46)).alloc (.cells zeros5.toArray 46)) = W0 at bp bm br hb0 ⊢
  have HB0 := Lib.hid hb0
  have HP0 := Lib.hid bp
  have HM0 := Lib.hid bm
  have HR0 := Lib.hid br
  have X4 : Hid (∀ w', Below W0.heap.size W0 w' → w'.cell? ⟨w.heap.size, 0, none⟩ = some (.int .i64 u.d.d0) ∧ w'.cell? ⟨w.heap.size, 1, none⟩ = some (.int .i64 u.d.d1) ∧ w'.cell? ⟨w.heap.size, 2, none⟩ = some (.int .i64 u.d.d2) ∧ w'.cell? ⟨w.heap.size, 3, none⟩ = some (.int .i64 u.d.d3)) := Lib.hid fun w' hb => ⟨(HP0.out.keep hb).2.1 0, (HP0.out.keep hb).2.1 1, (HP0.out.keep hb).2.1 2, (HP0.out.keep hb).2.1 3⟩
  clear hb0 bp bm br
  cases V with
  | false =>
    have HE : Hid (smpE u.d x.m y = 21) := Lib.hid (hee.trans rfl)
    clear hee he
    go_wp2_with (first
    | ((with_reducible show wpList _ _ _ (Oper.mk _ (.load 43 _) _ _ _ _ :: _) _ _); first | refine ld_prg HP0.out (lst_ten u) rfl _ rfl rfl ?_ | refine ld_prg (HP0.out.keep hb1) (lst_ten u) rfl _ rfl rfl ?_)
    | ((with_reducible show wpList _ _ _ (Oper.mk _ (.load 46 _) _ _ _ _ :: _) _ _); refine ld_mac (HM0.out.keep hb1) rfl rfl _ rfl rfl ?_)
    | (go_at_call 29; (with_reducible refine (CV.out _ HB0.out).mono ?_); rintro e1 w1 ⟨rfl, hb1⟩; have hbb := hb1)
    | (go_at_call 40; (with_reducible refine (CM.out _ (below_then HB0.out hb1)).mono ?_); rintro e2 w2 ⟨rfl, hb2⟩; have hbb := below_then hb1 hb2; obtain ⟨x0, x1, x2, x3⟩ := X4.out _ hbb)
    | (go_at_call 67; (with_reducible refine (rfits_is HY.out _).mono ?_); rintro e3 w3 ⟨rfl, hb3⟩; have hbb := below_then (below_then hb1 hb2) hb3)
    | ((with_reducible show wpList _ _ _ (Oper.mk _ (.build _ _) _ _ _ _ :: _) _ _); refine wp_bldR rfl 46 _ rfl _ rfl built_mac0 ?_)
    | ((with_reducible show wpList _ _ _ (Oper.mk _ (.store 46 _ _) _ _ _ _ :: _) _ _); refine st_mac (L := zeros5) (HR0.out.keep hbb) rfl rfl rfl rfl _ _ rfl rfl rfl ?_; intro w9 hb9 hg9))
    refine bodyPost_ret (resCTTT rfl _ _ w9 (g := w.heap.size + 2) (v := .agg zeros5.toArray) rfl (res_box _ hb9 dsc hd1 hd2 size_mac)) rfl ?_
    refine ⟨?_, grown_toI (below_then HB0.out hbb) hg9 (by omega)⟩
    rw [HE.out]
    rfl
  | true =>
    cases R with
    | false =>
      have HE : Hid (smpE u.d x.m y = 1) := Lib.hid (hee.trans rfl)
      clear hee he
      go_wp2_with (first
    | ((with_reducible show wpList _ _ _ (Oper.mk _ (.load 43 _) _ _ _ _ :: _) _ _); first | refine ld_prg HP0.out (lst_ten u) rfl _ rfl rfl ?_ | refine ld_prg (HP0.out.keep hb1) (lst_ten u) rfl _ rfl rfl ?_)
    | ((with_reducible show wpList _ _ _ (Oper.mk _ (.load 46 _) _ _ _ _ :: _) _ _); refine ld_mac (HM0.out.keep hb1) rfl rfl _ rfl rfl ?_)
    | (go_at_call 29; (with_reducible refine (CV.out _ HB0.out).mono ?_); rintro e1 w1 ⟨rfl, hb1⟩; have hbb := hb1)
    | (go_at_call 40; (with_reducible refine (CM.out _ (below_then HB0.out hb1)).mono ?_); rintro e2 w2 ⟨rfl, hb2⟩; have hbb := below_then hb1 hb2; obtain ⟨x0, x1, x2, x3⟩ := X4.out _ hbb)
    | (go_at_call 67; (with_reducible refine (rfits_is HY.out _).mono ?_); rintro e3 w3 ⟨rfl, hb3⟩; have hbb := below_then (below_then hb1 hb2) hb3)
    | ((with_reducible show wpList _ _ _ (Oper.mk _ (.build _ _) _ _ _ _ :: _) _ _); refine wp_bldR rfl 46 _ rfl _ rfl built_mac0 ?_)
    | ((with_reducible show wpList _ _ _ (Oper.mk _ (.store 46 _ _) _ _ _ _ :: _) _ _); refine st_mac (L := zeros5) (HR0.out.keep hbb) rfl rfl rfl rfl _ _ rfl rfl rfl ?_; intro w9 hb9 hg9))
      refine bodyPost_ret (resCTTT rfl _ _ w9 (g := w.heap.size + 2) (v := .agg zeros5.toArray) rfl (res_box _ hb9 dsc hd1 hd2 size_mac)) rfl ?_
      refine ⟨?_, grown_toI (below_then HB0.out hbb) hg9 (by omega)⟩
      rw [HE.out]
      rfl
    | true =>
      cases Y with
      | true => exact absurd (hee.trans rfl) he
      | false =>
        have HE : Hid (smpE u.d x.m y = 17) := Lib.hid (hee.trans rfl)
        clear hee he
        go_wp2_with (first
    | ((with_reducible show wpList _ _ _ (Oper.mk _ (.load 43 _) _ _ _ _ :: _) _ _); first | refine ld_prg HP0.out (lst_ten u) rfl _ rfl rfl ?_ | refine ld_prg (HP0.out.keep hb1) (lst_ten u) rfl _ rfl rfl ?_)
    | ((with_reducible show wpList _ _ _ (Oper.mk _ (.load 46 _) _ _ _ _ :: _) _ _); refine ld_mac (HM0.out.keep hb1) rfl rfl _ rfl rfl ?_)
    | (go_at_call 29; (with_reducible refine (CV.out _ HB0.out).mono ?_); rintro e1 w1 ⟨rfl, hb1⟩; have hbb := hb1)
    | (go_at_call 40; (with_reducible refine (CM.out _ (below_then HB0.out hb1)).mono ?_); rintro e2 w2 ⟨rfl, hb2⟩; have hbb := below_then hb1 hb2; obtain ⟨x0, x1, x2, x3⟩ := X4.out _ hbb)
    | (go_at_call 67; (with_reducible refine (rfits_is HY.out _).mono ?_); rintro e3 w3 ⟨rfl, hb3⟩; have hbb := below_then (below_then hb1 hb2) hb3)
    | ((with_reducible show wpList _ _ _ (Oper.mk _ (.build _ _) _ _ _ _ :: _) _ _); refine wp_bldR rfl 46 _ rfl _ rfl built_mac0 ?_)
    | ((with_reducible show wpList _ _ _ (Oper.mk _ (.store 46 _ _) _ _ _ _ :: _) _ _); refine st_mac (L := zeros5) (HR0.out.keep hbb) rfl rfl rfl rfl _ _ rfl rfl rfl ?_; intro w9 hb9 hg9))
        refine bodyPost_ret (resCTTT rfl _ _ w9 (g := w.heap.size + 2) (v := .agg zeros5.toArray) rfl (res_box _ hb9 dsc hd1 hd2 size_mac)) rfl ?_
        refine ⟨?_, grown_toI (below_then HB0.out hbb) hg9 (by omega)⟩
        rw [HE.out]
        rfl
end Go.Proofs.YtgdccmmcjicgkaaDoor
end
