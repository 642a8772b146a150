/- Start of package simulate and of its reference; place and Valid of the reference. Printed by gen_s28.py. -/
import Derived.Test.YtgdccmmcjicgkaaDoorsOdtoS26
import Derived.Test.YtgdccmmcjicgkaaDoorsS22toS14
import Derived.Test.YtgdccmmcjicgkaaDoorsS1toE21
import Derived.Test.YtgdccmmcjicgkaaDoorsE31toU5
import Derived.Test.YtgdccmmcjicgkaaDoorsE15toE23
import Derived.Deep.CutBlock
import Derived.Deep.DeepCutAuto
import Derived.Test.YtgdccmmcjicgkaaDoorsFztoVc
import Derived.Test.YtgdccmmcjicgkaaDoorsE5toE14
set_option linter.unusedVariables false
set_option linter.unusedSimpArgs false
namespace Go.Proofs.YtgdccmmcjicgkaaDoor
open Go.RowKit
def RetMacE (w : World) (m : Mac) (er : Int) (e : Ending) (w' : World) : Prop := ∃ x : MacA, x.m = m ∧ e = .returned (.tuple #[x.v, .int .i64 er]) ∧ MacAt w' x ∧ Below w.heap.size w w'
theorem RetMacE.mk {w w' : World} {m : Mac} {A B H : Option Addr} {an bn hn ac bc hc : Nat} {er : Int} {e : Ending} (he : e = .returned (.tuple #[.agg #[.slice A an ac, .slice B bn bc, .slice H hn hc, .int .i64 m.cyc, .int .i64 m.stl], .int .i64 er])) (h1 : m.regs.length = an) (h2 : m.mem.length = bn) (h3 : m.heads.length = hn) (i1 : Ints w' A m.regs) (i2 : Ints w' B m.mem) (i3 : Ints w' H m.heads) (hb : Below w.heap.size w w') : RetMacE w m er e w' := by
  subst h1 h2 h3
  exact ⟨⟨m, A, B, H, ac, bc, hc⟩, rfl, he, ⟨i1, i2, i3⟩, hb⟩
def macZ : Mac := ⟨[], [], [], 0, 0⟩
def startM (d : PrgD) : Mac := if validB d = true then mac0 d else macZ
def startE (d : PrgD) : Int := if validB d = true then 0 else 21
theorem built_mac0 : Tryd.prog.built 46 [] = some zeros5.toArray := by kernel_rfl
theorem built_mac3 (A B H : Option Addr) (an ac bn bc hn hc : Nat) : Tryd.prog.built 46 [(0, .slice A an ac), (1, .slice B bn bc), (2, .slice H hn hc)] = some #[.slice A an ac, .slice B bn bc, .slice H hn hc, .int .i64 0, .int .i64 0] := by kernel_rfl
def startF (B gp rn : Nat) (V : Value) : Nat → Value → World → Prop
  | 0, v, w => Own B w v (List.replicate 8 0)
  | 1, v, w => Own B w v (List.replicate 128 0)
  | 2, v, _ => v = .pointer (some ⟨gp, 8, none⟩)
  | 3, v, _ => v = V
  | 4, v, _ => v = .int .i64 (rn : Int)
  | 5, v, w => Own B w v (List.replicate rn 0)
  | 6, v, w => ∃ a b c, v = .agg #[a, b, c, .int .i64 0, .int .i64 0] ∧ Own B w a (List.replicate 8 0) ∧ Own B w b (List.replicate 128 0) ∧ Own B w c (List.replicate rn 0)
  | _, _, _ => False
theorem startF_keep {B gp rn : Nat} {V : Value} {w w' : World} (h : Below w.heap.size w w') : ∀ i v, startF B gp rn V i v w → startF B gp rn V i v w'
  | 0, _, e | 1, _, e | 5, _, e => Own.grow e h
  | 2, _, e | 3, _, e | 4, _, e => e
  | 6, _, ⟨a, b, c, e, h1, h2, h3⟩ => ⟨a, b, c, e, h1.grow h, h2.grow h, h3.grow h⟩
  | n + 7, _, e => e.elim
set_option maxRecDepth 100000 in
set_option maxHeartbeats 4000000 in
theorem r39_place (u : PrgA) (A1 A2 HA : Option Addr) (n1 m1 n2 m2 hn hc ka : Nat) (hs : List Int) (cy st kw : Int) (w : World) (hp : RingsAt w u.RA u.d.rg) (hv : validB u.d = true) (hh : Ints w HA hs) (hl : hs.length = hn) (hk : ka < u.d.rg.length) (hkn : ka < hn) (h0 : 0 ≤ hs.getD ka 0 ∧ hs.getD ka 0 < (u.d.rg.getD ka (0, 0)).2) (hw : 0 ≤ kw ∧ kw ≤ 128) :
    Calls Tryd.prog 68 #[.agg u.lst.toArray, .agg #[.slice A1 n1 m1, .slice A2 n2 m2, .slice HA hn hc, .int .i64 cy, .int .i64 st], .int .i64 (ka : Int), .int .i64 kw] w fun e w' => e = .returned (.int .i64 (plc u.d hs ka kw)) ∧ Below w.heap.size w w' := by
  obtain ⟨rn, hrn⟩ : ∃ n, u.d.rg.length = n := ⟨_, rfl⟩
  obtain ⟨⟨xb, xl⟩, hx⟩ : ∃ x, u.d.rg[ka]? = some x := ⟨_, List.getElem?_eq_getElem hk⟩
  have hr := ringIn_iff.1 (valid_ring hv hk)
  have hg : u.d.rg.getD ka (0, 0) = (xb, xl) := by rw [List.getD_eq_getElem?_getD, hx]; rfl
  rw [hg] at hr h0
  simp only at hr h0
  obtain ⟨hd, hhd⟩ : ∃ v, hs.getD ka 0 = v := ⟨_, rfl⟩
  rw [hhd] at h0
  have hxh : hs[ka]? = some hd := by rw [List.getD_eq_getElem?_getD, List.getElem?_eq_getElem (by omega)] at hhd; rw [List.getElem?_eq_getElem (by omega)]; exact congrArg some hhd
  have HPL : Hid (plc u.d hs ka kw = xb + (hd + kw) % xl) := by
    unfold plc rgA
    rw [show ((ka : Int)).toNat = ka from rfl, hg, hhd]
    exact Lib.hid rfl
  obtain ⟨rr, hrr⟩ : ∃ r, (hd + kw) % xl = r := ⟨_, rfl⟩
  rw [hrr] at HPL
  have e1 := Int.emod_nonneg (hd + kw) (show xl ≠ 0 by omega)
  have e2 := Int.emod_lt_of_pos (hd + kw) (show 0 < xl by omega)
  rw [hrr] at e1 e2
  have htm : (hd + kw).tmod xl = rr := by rw [Int.tmod_eq_emod_of_nonneg (by omega)]; exact hrr
  have HL8 := Lib.hid (lst_eight hrn)
  have HP := Lib.hid hp
  have HH := Lib.hid hh
  have HX := Lib.hid hx
  have HXH := Lib.hid hxh
  have HL := Lib.hid hl
  rw [hrn] at hk
  clear hp hv hh hrn hx hg hhd hxh hrr hl
  have q1 : (0 : Int) ≤ (ka : Int) := by omega
  have q2 : (ka : Int) < (rn : Int) := by omega
  have q3 : (ka : Int) < (hn : Int) := by omega
  go_enter Tryd.func68, Tryd.ntmps68
  go_upto_region 1 with fail
  obtain ⟨bp, br, hb0⟩ := entryPM w u.lst [.slice A1 n1 m1, .slice A2 n2 m2, .slice HA hn hc, .int .i64 cy, .int .i64 st] _ rfl
  change Code.wp _ _ _ _ ((w.alloc (.cells u.lst.toArray 43)).alloc (.cells [.slice A1 n1 m1, .slice A2 n2 m2, .slice HA hn hc, .int .i64 cy, .int .i64 st].toArray 46))
  generalize ((w.alloc (.cells u.lst.toArray 43)).alloc (.cells [.slice A1 n1 m1, .slice A2 n2 m2, .slice HA hn hc, .int .i64 cy, .int .i64 st].toArray 46)) = W0 at bp br hb0 ⊢
  have HB0 := Lib.hid hb0
  have HBP0 := Lib.hid bp
  have HBR0 := Lib.hid br
  have x8 : W0.cell? ⟨w.heap.size, 8, none⟩ = some (.slice u.RA rn u.rc) := (bp.2.1 8).trans HL8.out
  obtain ⟨ad, hA, hsp, hbl, hrr, -⟩ := (HP.out.grow hb0) ka (xb, xl) HX.out
  obtain ⟨r0, r1⟩ := ring_cells hsp hrr
  simp only at r0 r1
  have hRA := hA
  rw [hA] at x8
  clear hb0 bp br hsp hbl hrr
  generalize w.heap.size = gp at HBP0 HBR0 x8 ⊢
  go_upto_region 2 with (first
    | ((with_reducible show wpList _ _ _ (Oper.mk _ (.store 64 _ _) _ _ _ _ :: _) _ _); refine st_ring (w := W0.alloc (.cells #[.int .i64 0, .int .i64 0] 64)) (g := W0.heap.size) (Box.new rfl) rfl _ _ rfl rfl rfl ?_; intro W2 b2 p2))
  have hb2 := put_facts ((Below.refl W0.heap.size W0).alloc (Nat.le_refl _) (.cells #[.int .i64 0, .int .i64 0] 64)) (Nat.le_refl _) p2
  have HB2 := Lib.hid (below_then HB0.out hb2)
  have hbr2 := HBR0.out.keep hb2
  obtain ⟨ha, hv', e3, hbk, hx', hcc, i1, i2⟩ := (HH.out.grow HB2.out).at_ (k := ka) (by rw [HL.out]; omega)
  subst e3
  have hve : hv' = hd := by rw [HXH.out] at hx'; injection hx' with hx'; exact hx'.symm
  subst hve
  have hz : (ha.add ka).block < W2.heap.size := by rw [block_add]; exact hbk
  have y1 : ∀ n : Ext W2, n.to.cell? (ha.add ka) = some (.int .i64 hv') := fun n => (n.below.cell hz).trans hcc
  have y2 := hbr2.ext (k := 2) (v := .slice (some ha) hn hc) rfl
  have y3 := b2.ext (k := 0) (v := .int .i64 xb) rfl
  have y4 := b2.ext (k := 1) (v := .int .i64 xl) rfl
  clear hb2 hbr2 p2 b2 hbk hx' hcc hz r0 r1 x8
  generalize W0.heap.size = gr at y3 y4 ⊢
  have s1 : IntKind.i64.wrap (hv' + kw) = hv' + kw := IntWalk.i64_in _ (by omega)
  have s2 : IntKind.i64.wrap (xb + rr) = xb + rr := IntWalk.i64_in _ (by omega)
  have hx0 : ¬ xl = 0 := by omega
  have hx1 : (xl == 0) = false := by simpa using hx0
  simp only [Act.put]
  refine wp_region_ext (by kernel_rfl) (by kernel_rfl) ?_
  repeat (go_big_quiet_step (fail))
  refine wpQuiet_nil ?_
  rintro w3 ⟨⟨_, hb3⟩, rfl⟩
  go_wp2_with fail
  go_ret
  exact ⟨by rw [HPL.out]; rfl, below_then HB2.out hb3⟩
set_option maxRecDepth 100000 in
set_option maxHeartbeats 4000000 in
theorem sm_Start (u : PrgA) (w : World) (hf : FormsAt w) (hp : PrgAt w u) (hr9 : u.d.rg.length ≤ 9223372036854775807) (hc9 : u.d.code.length ≤ 9223372036854775807) : Calls Tryd.prog 32 #[u.v] w (RetMacE w (startM u.d) (startE u.d)) := by
  obtain ⟨V, hV⟩ : ∃ b, validB u.d = b := ⟨_, rfl⟩
  have CV : Hid (∀ w1, Below w.heap.size w w1 → Calls Tryd.prog 43 #[.agg u.lst.toArray] w1 fun e w' => e = .returned (.bool V) ∧ Below w1.heap.size w1 w') := Lib.hid fun w1 hb => by have h := pr_Valid u w1 (hf.grow hb) (hp.grow hb) hr9 hc9 hV; unfold PrgA.v at h; exact h
  have ev : u.v = .agg u.lst.toArray := rfl
  rw [ev]
  obtain ⟨rn, hrn⟩ : ∃ k, u.d.rg.length = k := ⟨_, rfl⟩
  have hrl : V = true → rn ≤ 8 := fun e => by rw [← hrn]; exact (valid_rl (hV.trans e)).1
  have HRN := Lib.hid hrn
  have HV := Lib.hid hV
  clear ev hp hrn hV hr9 hc9
  go_enter Tryd.func32, Tryd.ntmps32
  go_upto_region 1 with fail
  obtain ⟨bp, br, hb0⟩ := entryPM w u.lst zeros5 _ rfl
  change Code.wp _ _ _ _ ((w.alloc (.cells u.lst.toArray 43)).alloc (.cells zeros5.toArray 46))
  generalize ((w.alloc (.cells u.lst.toArray 43)).alloc (.cells zeros5.toArray 46)) = W0 at bp br hb0 ⊢
  have HB0 := Lib.hid hb0
  have HP0 := Lib.hid bp
  have HR0 := Lib.hid br
  clear hb0 bp br
  obtain ⟨dsc, hd1, hd2⟩ := row_mac
  cases V with
  | false =>
    have HS : Hid (startM u.d = macZ ∧ startE u.d = 21) := Lib.hid (by unfold startM startE; rw [HV.out]; exact ⟨rfl, rfl⟩)
    go_wp2_with (first
      | ((with_reducible show wpList _ _ _ (Oper.mk _ (.load 43 _) _ _ _ _ :: _) _ _); refine ld_prg HP0.out (lst_ten u) rfl _ rfl rfl ?_)
      | (go_at_call 43; (with_reducible refine (CV.out _ HB0.out).mono ?_); rintro e1 w1 ⟨rfl, hb1⟩)
      | ((with_reducible show wpList _ _ _ (Oper.mk _ (.build _ _) _ _ _ _ :: _) _ _); refine wp_bldR rfl 46 _ rfl _ rfl built_mac0 ?_)
      | ((with_reducible show wpList _ _ _ (Oper.mk _ (.store 46 _ _) _ _ _ _ :: _) _ _); refine st_mac (L := zeros5) (HR0.out.keep hb1) rfl rfl rfl rfl _ _ rfl rfl rfl ?_; intro w9 hb9 hg9))
    refine bodyPost_ret (resCT rfl _ _ w9 (g := w.heap.size + 1) (v := .agg zeros5.toArray) rfl (res_box _ hb9 dsc hd1 hd2 size_mac)) rfl ?_
    rw [HS.out.1, HS.out.2]
    exact RetMacE.mk (m := macZ) rfl rfl rfl rfl Ints.nil Ints.nil Ints.nil (grown_toI (below_then HB0.out hb1) hg9 (by omega))
  | true =>
    have HS : Hid (startM u.d = ⟨List.replicate 8 0, List.replicate 128 0, List.replicate rn 0, 0, 0⟩ ∧ startE u.d = 0) := Lib.hid (by unfold startM startE mac0; rw [HV.out, HRN.out]; exact ⟨rfl, rfl⟩)
    have hr8 := hrl rfl
    clear hrl
    go_upto_region 3 with (first
      | ((with_reducible show wpList _ _ _ (Oper.mk _ (.load 43 _) _ _ _ _ :: _) _ _); refine ld_prg HP0.out (lst_ten u) rfl _ rfl rfl ?_)
      | (go_at_call 43; (with_reducible refine (CV.out _ HB0.out).mono ?_); rintro e1 w1 ⟨rfl, hb1⟩))
    have HB1 := Lib.hid (below_then HB0.out hb1)
    have HP1 := Lib.hid (HP0.out.keep hb1)
    have HR1 := Lib.hid (HR0.out.keep hb1)
    clear hb1 HB0 HP0 HR0 CV
    obtain ⟨B, hB⟩ : ∃ B, w.heap.size + 2 = B := ⟨_, rfl⟩
    have HBE := Lib.hid hB
    have HBW : Hid (B ≤ w1.heap.size) := by have := HR1.out.1; rw [← hB]; exact Lib.hid (by omega)
    clear hB
    refine wp_region_grow 7 (fun w' => Below w1.heap.size w1 w') (fun a b => Below a.heap.size a b) (startF B w.heap.size rn (.slice u.RA rn u.rc)) (by kernel_rfl) (by kernel_rfl) (Below.refl _ _).drew (fun a b h1 h2 => ⟨below_then h1 h2, fun i _ v => startF_keep h2 i v⟩) ?_ ?_
    · refine ⟨?_, ?_, ?_, ?_, ?_, ?_, ?_, trivial⟩
      · intro vs w5 hC hF
        simp [stL, depsB, Region.binds, Act.put]
        refine mk_int rfl _ _ rfl w5.heap.size 8 rfl rfl rfl (by decide) (Nat.le_refl _) ?_
        intro w6 ho6 hb6
        exact wpList_nil ⟨rfl, _, rfl, ho6.base (by have := HBW.out; have := hC.size; omega), hb6⟩
      · intro vs w5 hC hF
        simp [stL, depsB, Region.binds, Act.put]
        refine mk_int rfl _ _ rfl w5.heap.size 128 rfl rfl rfl (by decide) (Nat.le_refl _) ?_
        intro w6 ho6 hb6
        exact wpList_nil ⟨rfl, _, rfl, ho6.base (by have := HBW.out; have := hC.size; omega), hb6⟩
      · intro vs w5 hC hF
        simp [stL, depsB, Region.binds, Act.put]
        go_wp2_with fail
        exact ⟨rfl, Below.refl _ _⟩
      · intro vs w5 hC hF
        have x8 : w5.cell? ⟨w.heap.size, 8, none⟩ = some (.slice u.RA rn u.rc) := ((HP1.out.keep hC).2.1 8).trans (lst_eight HRN.out)
        have e2 : vs 2 = .pointer (some ⟨w.heap.size, 8, none⟩) := hF 2 (by decide)
        simp [stL, depsB, Region.binds, Act.put, e2]
        go_wp2_with fail
        exact ⟨rfl, Below.refl _ _⟩
      · intro vs w5 hC hF
        have e3 : vs 3 = .slice u.RA rn u.rc := hF 3 (by decide)
        simp [stL, depsB, Region.binds, Act.put, e3]
        go_wp2_with fail
        exact ⟨rfl, Below.refl _ _⟩
      · intro vs w5 hC hF
        have e4 : vs 4 = .int .i64 (rn : Int) := hF 4 (by decide)
        simp [stL, depsB, Region.binds, Act.put, e4]
        refine mk_int rfl _ _ rfl w5.heap.size rn rfl rfl rfl (by omega) (Nat.le_refl _) ?_
        intro w6 ho6 hb6
        exact wpList_nil ⟨rfl, _, rfl, ho6.base (by have := HBW.out; have := hC.size; omega), hb6⟩
      · intro vs w5 hC hF
        have h0 : Own B w5 (vs 0) (List.replicate 8 0) := hF 0 (by decide)
        have h1 : Own B w5 (vs 1) (List.replicate 128 0) := hF 1 (by decide)
        have h5 : Own B w5 (vs 5) (List.replicate rn 0) := hF 5 (by decide)
        obtain ⟨A0, c0, e0, -⟩ := own_form h0.1
        obtain ⟨A1, c1, e1, -⟩ := own_form h1.1
        obtain ⟨A5, c5, e5, -⟩ := own_form h5.1
        rw [e0] at h0
        rw [e1] at h1
        rw [e5] at h5
        simp only [List.length_replicate] at e0 e1 e5 h0 h1 h5
        simp [stL, depsB, Region.binds, Act.put, e0, e1, e5]
        refine wp_bldR rfl 46 _ rfl _ rfl (built_mac3 A0 A1 A5 _ c0 _ c1 _ c5) ?_
        exact wpList_nil ⟨rfl, _, rfl, ⟨_, _, _, rfl, h0, h1, h5⟩, Below.refl _ _⟩
    intro vs w5 hC hF
    obtain ⟨a, b, c, e6, h0, h1, h5⟩ := hF 6 (by decide)
    obtain ⟨A0, c0, rfl, -⟩ := own_form h0.1
    obtain ⟨A1, c1, rfl, -⟩ := own_form h1.1
    obtain ⟨A5, c5, rfl, -⟩ := own_form h5.1
    simp only [List.length_replicate] at e6 h0 h1 h5
    show wpList Tryd.prog _ _ [_, _] _ _
    simp [stL, Act.put, e6]
    clear hF e6
    refine st_mac (L := [.slice A0 8 c0, .slice A1 128 c1, .slice A5 rn c5, .int .i64 0, .int .i64 0]) (HR1.out.keep hC) rfl rfl rfl rfl _ _ rfl rfl rfl ?_
    intro w9 hb9 hg9
    have HB9 := Lib.hid (grown_toI (below_then HB1.out hC) hg9 (by omega))
    have hgB : w.heap.size + 1 < B := by have := HBE.out; omega
    have O0 := Lib.hid (own_setsI h0.1 hg9 hgB)
    have O1 := Lib.hid (own_setsI h1.1 hg9 hgB)
    have O5 := Lib.hid (own_setsI h5.1 hg9 hgB)
    have HZ : Hid (∀ n, ∀ x ∈ List.replicate n (0 : Int), I64 x) := Lib.hid fun n x hx => by rw [(List.mem_replicate.1 hx).2]; unfold I64; omega
    clear h0 h1 h5 hg9 hgB hC
    go_wp2_with fail
    refine bodyPost_ret (resCT rfl _ _ w9 (g := w.heap.size + 1) (v := .agg [.slice A0 8 c0, .slice A1 128 c1, .slice A5 rn c5, .int .i64 0, .int .i64 0].toArray) rfl (res_box _ hb9 dsc hd1 hd2 size_mac)) rfl ?_
    rw [HS.out.1, HS.out.2]
    have i0 : Own B w9 (.slice A0 8 c0) (List.replicate 8 0) := ⟨O0.out, HZ.out 8⟩
    have i1 : Own B w9 (.slice A1 128 c1) (List.replicate 128 0) := ⟨O1.out, HZ.out 128⟩
    have i5 : Own B w9 (.slice A5 rn c5) (List.replicate rn 0) := ⟨O5.out, HZ.out rn⟩
    exact RetMacE.mk rfl (List.length_replicate ..) (List.length_replicate ..) (List.length_replicate ..) i0.ints i1.ints i5.ints HB9.out
set_option maxRecDepth 100000 in
set_option maxHeartbeats 4000000 in
theorem r39_Start (u : PrgA) (w : World) (hp : PrgAt w u) (hr9 : u.d.rg.length ≤ 9223372036854775807) (hc9 : u.d.code.length ≤ 9223372036854775807) : Calls Tryd.prog 36 #[u.v] w (RetMacE w (startM u.d) (startE u.d)) := by
  obtain ⟨V, hV⟩ : ∃ b, validB u.d = b := ⟨_, rfl⟩
  have CV : Hid (∀ w1, Below w.heap.size w w1 → Calls Tryd.prog 29 #[.agg u.lst.toArray] w1 fun e w' => e = .returned (.bool V) ∧ Below w1.heap.size w1 w') := Lib.hid fun w1 hb => by have h := r38_Valid u w1 (hp.grow hb) hr9 hc9 hV; unfold PrgA.v at h; exact h
  have ev : u.v = .agg u.lst.toArray := rfl
  rw [ev]
  obtain ⟨rn, hrn⟩ : ∃ k, u.d.rg.length = k := ⟨_, rfl⟩
  have hrl : V = true → rn ≤ 8 := fun e => by rw [← hrn]; exact (valid_rl (hV.trans e)).1
  have HRN := Lib.hid hrn
  have HV := Lib.hid hV
  clear ev hp hrn hV hr9 hc9
  go_enter Tryd.func36, Tryd.ntmps36
  go_upto_region 1 with fail
  obtain ⟨bp, br, hb0⟩ := entryPM w u.lst zeros5 _ rfl
  change Code.wp _ _ _ _ ((w.alloc (.cells u.lst.toArray 43)).alloc (.cells zeros5.toArray 46))
  generalize ((w.alloc (.cells u.lst.toArray 43)).alloc (.cells zeros5.toArray 46)) = W0 at bp br hb0 ⊢
  have HB0 := Lib.hid hb0
  have HP0 := Lib.hid bp
  have HR0 := Lib.hid br
  clear hb0 bp br
  obtain ⟨dsc, hd1, hd2⟩ := row_mac
  cases V with
  | false =>
    have HS : Hid (startM u.d = macZ ∧ startE u.d = 21) := Lib.hid (by unfold startM startE; rw [HV.out]; exact ⟨rfl, rfl⟩)
    go_wp2_with (first
      | ((with_reducible show wpList _ _ _ (Oper.mk _ (.load 43 _) _ _ _ _ :: _) _ _); refine ld_prg HP0.out (lst_ten u) rfl _ rfl rfl ?_)
      | (go_at_call 29; (with_reducible refine (CV.out _ HB0.out).mono ?_); rintro e1 w1 ⟨rfl, hb1⟩)
      | ((with_reducible show wpList _ _ _ (Oper.mk _ (.build _ _) _ _ _ _ :: _) _ _); refine wp_bldR rfl 46 _ rfl _ rfl built_mac0 ?_)
      | ((with_reducible show wpList _ _ _ (Oper.mk _ (.store 46 _ _) _ _ _ _ :: _) _ _); refine st_mac (L := zeros5) (HR0.out.keep hb1) rfl rfl rfl rfl _ _ rfl rfl rfl ?_; intro w9 hb9 hg9))
    refine bodyPost_ret (resCT rfl _ _ w9 (g := w.heap.size + 1) (v := .agg zeros5.toArray) rfl (res_box _ hb9 dsc hd1 hd2 size_mac)) rfl ?_
    rw [HS.out.1, HS.out.2]
    exact RetMacE.mk (m := macZ) rfl rfl rfl rfl Ints.nil Ints.nil Ints.nil (grown_toI (below_then HB0.out hb1) hg9 (by omega))
  | true =>
    have HS : Hid (startM u.d = ⟨List.replicate 8 0, List.replicate 128 0, List.replicate rn 0, 0, 0⟩ ∧ startE u.d = 0) := Lib.hid (by unfold startM startE mac0; rw [HV.out, HRN.out]; exact ⟨rfl, rfl⟩)
    have hr8 := hrl rfl
    clear hrl
    go_upto_region 3 with (first
      | ((with_reducible show wpList _ _ _ (Oper.mk _ (.load 43 _) _ _ _ _ :: _) _ _); refine ld_prg HP0.out (lst_ten u) rfl _ rfl rfl ?_)
      | (go_at_call 29; (with_reducible refine (CV.out _ HB0.out).mono ?_); rintro e1 w1 ⟨rfl, hb1⟩))
    have HB1 := Lib.hid (below_then HB0.out hb1)
    have HP1 := Lib.hid (HP0.out.keep hb1)
    have HR1 := Lib.hid (HR0.out.keep hb1)
    clear hb1 HB0 HP0 HR0 CV
    obtain ⟨B, hB⟩ : ∃ B, w.heap.size + 2 = B := ⟨_, rfl⟩
    have HBE := Lib.hid hB
    have HBW : Hid (B ≤ w1.heap.size) := by have := HR1.out.1; rw [← hB]; exact Lib.hid (by omega)
    clear hB
    refine wp_region_grow 7 (fun w' => Below w1.heap.size w1 w') (fun a b => Below a.heap.size a b) (startF B w.heap.size rn (.slice u.RA rn u.rc)) (by kernel_rfl) (by kernel_rfl) (Below.refl _ _).drew (fun a b h1 h2 => ⟨below_then h1 h2, fun i _ v => startF_keep h2 i v⟩) ?_ ?_
    · refine ⟨?_, ?_, ?_, ?_, ?_, ?_, ?_, trivial⟩
      · intro vs w5 hC hF
        simp [stL, depsB, Region.binds, Act.put]
        refine mk_int rfl _ _ rfl w5.heap.size 8 rfl rfl rfl (by decide) (Nat.le_refl _) ?_
        intro w6 ho6 hb6
        exact wpList_nil ⟨rfl, _, rfl, ho6.base (by have := HBW.out; have := hC.size; omega), hb6⟩
      · intro vs w5 hC hF
        simp [stL, depsB, Region.binds, Act.put]
        refine mk_int rfl _ _ rfl w5.heap.size 128 rfl rfl rfl (by decide) (Nat.le_refl _) ?_
        intro w6 ho6 hb6
        exact wpList_nil ⟨rfl, _, rfl, ho6.base (by have := HBW.out; have := hC.size; omega), hb6⟩
      · intro vs w5 hC hF
        simp [stL, depsB, Region.binds, Act.put]
        go_wp2_with fail
        exact ⟨rfl, Below.refl _ _⟩
      · intro vs w5 hC hF
        have x8 : w5.cell? ⟨w.heap.size, 8, none⟩ = some (.slice u.RA rn u.rc) := ((HP1.out.keep hC).2.1 8).trans (lst_eight HRN.out)
        have e2 : vs 2 = .pointer (some ⟨w.heap.size, 8, none⟩) := hF 2 (by decide)
        simp [stL, depsB, Region.binds, Act.put, e2]
        go_wp2_with fail
        exact ⟨rfl, Below.refl _ _⟩
      · intro vs w5 hC hF
        have e3 : vs 3 = .slice u.RA rn u.rc := hF 3 (by decide)
        simp [stL, depsB, Region.binds, Act.put, e3]
        go_wp2_with fail
        exact ⟨rfl, Below.refl _ _⟩
      · intro vs w5 hC hF
        have e4 : vs 4 = .int .i64 (rn : Int) := hF 4 (by decide)
        simp [stL, depsB, Region.binds, Act.put, e4]
        refine mk_int rfl _ _ rfl w5.heap.size rn rfl rfl rfl (by omega) (Nat.le_refl _) ?_
        intro w6 ho6 hb6
        exact wpList_nil ⟨rfl, _, rfl, ho6.base (by have := HBW.out; have := hC.size; omega), hb6⟩
      · intro vs w5 hC hF
        have h0 : Own B w5 (vs 0) (List.replicate 8 0) := hF 0 (by decide)
        have h1 : Own B w5 (vs 1) (List.replicate 128 0) := hF 1 (by decide)
        have h5 : Own B w5 (vs 5) (List.replicate rn 0) := hF 5 (by decide)
        obtain ⟨A0, c0, e0, -⟩ := own_form h0.1
        obtain ⟨A1, c1, e1, -⟩ := own_form h1.1
        obtain ⟨A5, c5, e5, -⟩ := own_form h5.1
        rw [e0] at h0
        rw [e1] at h1
        rw [e5] at h5
        simp only [List.length_replicate] at e0 e1 e5 h0 h1 h5
        simp [stL, depsB, Region.binds, Act.put, e0, e1, e5]
        refine wp_bldR rfl 46 _ rfl _ rfl (built_mac3 A0 A1 A5 _ c0 _ c1 _ c5) ?_
        exact wpList_nil ⟨rfl, _, rfl, ⟨_, _, _, rfl, h0, h1, h5⟩, Below.refl _ _⟩
    intro vs w5 hC hF
    obtain ⟨a, b, c, e6, h0, h1, h5⟩ := hF 6 (by decide)
    obtain ⟨A0, c0, rfl, -⟩ := own_form h0.1
    obtain ⟨A1, c1, rfl, -⟩ := own_form h1.1
    obtain ⟨A5, c5, rfl, -⟩ := own_form h5.1
    simp only [List.length_replicate] at e6 h0 h1 h5
    show wpList Tryd.prog _ _ [_, _] _ _
    simp [stL, Act.put, e6]
    clear hF e6
    refine st_mac (L := [.slice A0 8 c0, .slice A1 128 c1, .slice A5 rn c5, .int .i64 0, .int .i64 0]) (HR1.out.keep hC) rfl rfl rfl rfl _ _ rfl rfl rfl ?_
    intro w9 hb9 hg9
    have HB9 := Lib.hid (grown_toI (below_then HB1.out hC) hg9 (by omega))
    have hgB : w.heap.size + 1 < B := by have := HBE.out; omega
    have O0 := Lib.hid (own_setsI h0.1 hg9 hgB)
    have O1 := Lib.hid (own_setsI h1.1 hg9 hgB)
    have O5 := Lib.hid (own_setsI h5.1 hg9 hgB)
    have HZ : Hid (∀ n, ∀ x ∈ List.replicate n (0 : Int), I64 x) := Lib.hid fun n x hx => by rw [(List.mem_replicate.1 hx).2]; unfold I64; omega
    clear h0 h1 h5 hg9 hgB hC
    go_wp2_with fail
    refine bodyPost_ret (resCT rfl _ _ w9 (g := w.heap.size + 1) (v := .agg [.slice A0 8 c0, .slice A1 128 c1, .slice A5 rn c5, .int .i64 0, .int .i64 0].toArray) rfl (res_box _ hb9 dsc hd1 hd2 size_mac)) rfl ?_
    rw [HS.out.1, HS.out.2]
    have i0 : Own B w9 (.slice A0 8 c0) (List.replicate 8 0) := ⟨O0.out, HZ.out 8⟩
    have i1 : Own B w9 (.slice A1 128 c1) (List.replicate 128 0) := ⟨O1.out, HZ.out 128⟩
    have i5 : Own B w9 (.slice A5 rn c5) (List.replicate rn 0) := ⟨O5.out, HZ.out rn⟩
    exact RetMacE.mk rfl (List.length_replicate ..) (List.length_replicate ..) (List.length_replicate ..) i0.ints i1.ints i5.ints HB9.out
set_option maxRecDepth 100000 in
set_option maxHeartbeats 8000000 in
theorem r39_Valid (u : PrgA) (x : MacA) (w : World) (hp : PrgAt w u) (hx : MacAt w x) (hr9 : u.d.rg.length ≤ 9223372036854775807) (hc9 : u.d.code.length ≤ 9223372036854775807) (hm9 : MacLen x.m) {R : Bool} (hR : macB u.d x.m = R) :
    Calls Tryd.prog 40 #[u.v, x.v] w fun e w' => e = .returned (.bool R) ∧ Below w.heap.size w w' := by
  obtain ⟨V, hV⟩ : ∃ b, validB u.d = b := ⟨_, rfl⟩
  have CV : Hid (∀ w1, Below w.heap.size w w1 → Calls Tryd.prog 29 #[.agg u.lst.toArray] w1 fun e w' => e = .returned (.bool V) ∧ Below w1.heap.size w1 w') := Lib.hid fun w1 hb => by have h := r38_Valid u w1 (hp.grow hb) hr9 hc9 hV; unfold PrgA.v at h; exact h
  obtain ⟨⟨rs, ms, hs, cy, st⟩, GA, MA, HA, gc, mc, hc⟩ := x
  obtain ⟨hga, hma, hha⟩ := hx
  obtain ⟨l1, l2, l3⟩ := hm9
  simp only at hga hma hha l1 l2 l3 hR
  obtain ⟨rn, hrn⟩ : ∃ n, u.d.rg.length = n := ⟨_, rfl⟩
  obtain ⟨gn, hgn⟩ : ∃ n, rs.length = n := ⟨_, rfl⟩
  obtain ⟨mn, hmn⟩ : ∃ n, ms.length = n := ⟨_, rfl⟩
  obtain ⟨hn, hhn⟩ : ∃ n, hs.length = n := ⟨_, rfl⟩
  obtain ⟨bg, hbg⟩ : ∃ b, wordD u.d rs = b := ⟨_, rfl⟩
  obtain ⟨bm, hbm⟩ : ∃ b, wordD u.d ms = b := ⟨_, rfl⟩
  have CG : Hid (∀ w1, Below w.heap.size w w1 → Calls Tryd.prog 61 #[wordV u.d.d0 u.d.d1 u.d.d2 u.d.d3, .slice GA gn gc] w1 fun e w' => e = .returned (.bool bg) ∧ Below w1.heap.size w1 w') := Lib.hid fun w1 hb => by
    subst hgn hbg
    exact rf_Words _ _ _ _ GA rs gc w1 l1 (hga.grow hb)
  have CM : Hid (∀ w1, Below w.heap.size w w1 → Calls Tryd.prog 61 #[wordV u.d.d0 u.d.d1 u.d.d2 u.d.d3, .slice MA mn mc] w1 fun e w' => e = .returned (.bool bm) ∧ Below w1.heap.size w1 w') := Lib.hid fun w1 hb => by
    subst hmn hbm
    exact rf_Words _ _ _ _ MA ms mc w1 l2 (hma.grow hb)
  have CI : Hid (∀ v a b w1, Calls Tryd.prog 64 #[.int .i64 v, .int .i64 a, .int .i64 b] w1 fun e w' => e = .returned (.bool (inB v a b)) ∧ Below w1.heap.size w1 w') := Lib.hid fun v a b w1 => (rf_In v a b w1).mono fun e w' h => ⟨h.1, h.2 ▸ Below.refl _ _⟩
  have em : MacA.v ⟨⟨rs, ms, hs, cy, st⟩, GA, MA, HA, gc, mc, hc⟩ = .agg #[.slice GA gn gc, .slice MA mn mc, .slice HA hn hc, .int .i64 cy, .int .i64 st] := by
    unfold MacA.v MacA.lst
    simp only [hgn, hmn, hhn]
  have ev : u.v = .agg u.lst.toArray := rfl
  rw [ev, em]
  have HR : Hid (∀ b, macB u.d ⟨rs, ms, hs, cy, st⟩ = b → R = b) := Lib.hid fun b h => hR.symm.trans h
  have HV := Lib.hid hV
  have HRN := Lib.hid hrn
  have HRA := Lib.hid hp.1
  have HHA := Lib.hid hha
  have HGN := Lib.hid hgn
  have HMN := Lib.hid hmn
  have HHN := Lib.hid hhn
  have HBG := Lib.hid hbg
  have HBM := Lib.hid hbm
  rw [hgn] at l1
  rw [hmn] at l2
  rw [hhn] at l3
  rw [hrn] at hr9
  clear ev em hp hga hma hha hrn hgn hmn hhn hbg hbm hV hR hc9
  go_enter Tryd.func40, Tryd.ntmps40
  go_upto_region 1 with fail
  obtain ⟨bp, br, hb0⟩ := entryPM w u.lst [.slice GA gn gc, .slice MA mn mc, .slice HA hn hc, .int .i64 cy, .int .i64 st] _ rfl
  change Code.wp _ _ _ _ ((w.alloc (.cells u.lst.toArray 43)).alloc (.cells [.slice GA gn gc, .slice MA mn mc, .slice HA hn hc, .int .i64 cy, .int .i64 st].toArray 46))
  generalize ((w.alloc (.cells u.lst.toArray 43)).alloc (.cells [.slice GA gn gc, .slice MA mn mc, .slice HA hn hc, .int .i64 cy, .int .i64 st].toArray 46)) = W0 at bp br hb0 ⊢
  have HB0 := Lib.hid hb0
  have HP0 := Lib.hid bp
  have HR0 := Lib.hid br
  clear hb0 bp br
  obtain ⟨B, hB⟩ : ∃ B, w.heap.size = B := ⟨_, rfl⟩
  have HBE := Lib.hid hB
  clear hB
  obtain ⟨gp, hgp⟩ : ∃ g, w.heap.size = g := ⟨_, rfl⟩
  rw [hgp] at HP0 HR0 ⊢
  have HGP := Lib.hid hgp
  clear hgp
  cases V with
  | false =>
    have HNO := Lib.hid (HR.out false (by unfold macB; rw [HV.out]; rfl))
    go_wp2_with (first
      | ((with_reducible show wpList _ _ _ (Oper.mk _ (.load 43 _) _ _ _ _ :: _) _ _); refine ld_prg HP0.out (lst_ten u) rfl _ rfl rfl ?_)
      | (go_at_call 29; (with_reducible refine (CV.out _ HB0.out).mono ?_); rintro e1 w1 ⟨rfl, hb1⟩; obtain ⟨y0, y1, y2, y3, y4⟩ := (HR0.out.keep hb1).c5; have x8 : w1.cell? ⟨gp, 8, none⟩ = some (.slice u.RA _ u.rc) := ((HP0.out.keep hb1).2.1 8).trans (lst_eight HRN.out); have x0 : w1.cell? ⟨gp, 0, none⟩ = some (.int .i64 u.d.d0) := (HP0.out.keep hb1).2.1 0; have x1 : w1.cell? ⟨gp, 1, none⟩ = some (.int .i64 u.d.d1) := (HP0.out.keep hb1).2.1 1; have x2 : w1.cell? ⟨gp, 2, none⟩ = some (.int .i64 u.d.d2) := (HP0.out.keep hb1).2.1 2; have x3 : w1.cell? ⟨gp, 3, none⟩ = some (.int .i64 u.d.d3) := (HP0.out.keep hb1).2.1 3))
    go_ret
    exact ⟨by rw [HNO.out]; rfl, below_then HB0.out hb1⟩
  | true =>
    by_cases hl1 : gn = 8
    · subst hl1
      by_cases hl2 : mn = 128
      · subst hl2
        by_cases hl3 : hn = rn
        · subst hl3
          have HLL : Hid (decide (rs.length = 8 ∧ ms.length = 128 ∧ hs.length = u.d.rg.length) = true) := Lib.hid (decide_eq_true ⟨HGN.out, HMN.out, by rw [HHN.out, HRN.out]⟩)
          cases bg with
          | false =>
            have HNO := Lib.hid (HR.out false (by unfold macB; rw [HV.out, HLL.out, HBG.out]; rfl))
            go_wp2_with (first
              | ((with_reducible show wpList _ _ _ (Oper.mk _ (.load 43 _) _ _ _ _ :: _) _ _); refine ld_prg HP0.out (lst_ten u) rfl _ rfl rfl ?_)
              | (go_at_call 29; (with_reducible refine (CV.out _ HB0.out).mono ?_); rintro e1 w1 ⟨rfl, hb1⟩; obtain ⟨y0, y1, y2, y3, y4⟩ := (HR0.out.keep hb1).c5; have x8 : w1.cell? ⟨gp, 8, none⟩ = some (.slice u.RA _ u.rc) := ((HP0.out.keep hb1).2.1 8).trans (lst_eight HRN.out); have x0 : w1.cell? ⟨gp, 0, none⟩ = some (.int .i64 u.d.d0) := (HP0.out.keep hb1).2.1 0; have x1 : w1.cell? ⟨gp, 1, none⟩ = some (.int .i64 u.d.d1) := (HP0.out.keep hb1).2.1 1; have x2 : w1.cell? ⟨gp, 2, none⟩ = some (.int .i64 u.d.d2) := (HP0.out.keep hb1).2.1 2; have x3 : w1.cell? ⟨gp, 3, none⟩ = some (.int .i64 u.d.d3) := (HP0.out.keep hb1).2.1 3)
              | (go_at_call 61; (with_reducible refine (CG.out _ (below_then HB0.out hb1)).mono ?_); rintro e1 w2 ⟨rfl, hb2⟩; have hb12 := below_then hb1 hb2; obtain ⟨y0, y1, y2, y3, y4⟩ := (HR0.out.keep hb12).c5; have x0 : w2.cell? ⟨gp, 0, none⟩ = some (.int .i64 u.d.d0) := (HP0.out.keep hb12).2.1 0; have x1 : w2.cell? ⟨gp, 1, none⟩ = some (.int .i64 u.d.d1) := (HP0.out.keep hb12).2.1 1; have x2 : w2.cell? ⟨gp, 2, none⟩ = some (.int .i64 u.d.d2) := (HP0.out.keep hb12).2.1 2; have x3 : w2.cell? ⟨gp, 3, none⟩ = some (.int .i64 u.d.d3) := (HP0.out.keep hb12).2.1 3))
            go_ret
            exact ⟨by rw [HNO.out]; rfl, below_then HB0.out hb12⟩
          | true =>
            cases bm with
            | false =>
              have HNO := Lib.hid (HR.out false (by unfold macB; rw [HV.out, HLL.out, HBG.out, HBM.out]; rfl))
              go_wp2_with (first
                | ((with_reducible show wpList _ _ _ (Oper.mk _ (.load 43 _) _ _ _ _ :: _) _ _); refine ld_prg HP0.out (lst_ten u) rfl _ rfl rfl ?_)
                | (go_at_call 29; (with_reducible refine (CV.out _ HB0.out).mono ?_); rintro e1 w1 ⟨rfl, hb1⟩; obtain ⟨y0, y1, y2, y3, y4⟩ := (HR0.out.keep hb1).c5; have x8 : w1.cell? ⟨gp, 8, none⟩ = some (.slice u.RA _ u.rc) := ((HP0.out.keep hb1).2.1 8).trans (lst_eight HRN.out); have x0 : w1.cell? ⟨gp, 0, none⟩ = some (.int .i64 u.d.d0) := (HP0.out.keep hb1).2.1 0; have x1 : w1.cell? ⟨gp, 1, none⟩ = some (.int .i64 u.d.d1) := (HP0.out.keep hb1).2.1 1; have x2 : w1.cell? ⟨gp, 2, none⟩ = some (.int .i64 u.d.d2) := (HP0.out.keep hb1).2.1 2; have x3 : w1.cell? ⟨gp, 3, none⟩ = some (.int .i64 u.d.d3) := (HP0.out.keep hb1).2.1 3)
                | (go_at_call 61; (with_reducible refine (CG.out _ (below_then HB0.out hb1)).mono ?_); rintro e1 w2 ⟨rfl, hb2⟩; have hb12 := below_then hb1 hb2; obtain ⟨y0, y1, y2, y3, y4⟩ := (HR0.out.keep hb12).c5; have x0 : w2.cell? ⟨gp, 0, none⟩ = some (.int .i64 u.d.d0) := (HP0.out.keep hb12).2.1 0; have x1 : w2.cell? ⟨gp, 1, none⟩ = some (.int .i64 u.d.d1) := (HP0.out.keep hb12).2.1 1; have x2 : w2.cell? ⟨gp, 2, none⟩ = some (.int .i64 u.d.d2) := (HP0.out.keep hb12).2.1 2; have x3 : w2.cell? ⟨gp, 3, none⟩ = some (.int .i64 u.d.d3) := (HP0.out.keep hb12).2.1 3)
                | (go_at_call 61; (with_reducible refine (CM.out _ (below_then HB0.out hb12)).mono ?_); rintro e1 w3 ⟨rfl, hb3⟩))
              go_ret
              exact ⟨by rw [HNO.out]; rfl, below_then (below_then HB0.out hb12) hb3⟩
            | true =>
              go_upto_region 3 with (first
                | ((with_reducible show wpList _ _ _ (Oper.mk _ (.load 43 _) _ _ _ _ :: _) _ _); refine ld_prg HP0.out (lst_ten u) rfl _ rfl rfl ?_)
                | (go_at_call 29; (with_reducible refine (CV.out _ HB0.out).mono ?_); rintro e1 w1 ⟨rfl, hb1⟩; obtain ⟨y0, y1, y2, y3, y4⟩ := (HR0.out.keep hb1).c5; have x8 : w1.cell? ⟨gp, 8, none⟩ = some (.slice u.RA _ u.rc) := ((HP0.out.keep hb1).2.1 8).trans (lst_eight HRN.out); have x0 : w1.cell? ⟨gp, 0, none⟩ = some (.int .i64 u.d.d0) := (HP0.out.keep hb1).2.1 0; have x1 : w1.cell? ⟨gp, 1, none⟩ = some (.int .i64 u.d.d1) := (HP0.out.keep hb1).2.1 1; have x2 : w1.cell? ⟨gp, 2, none⟩ = some (.int .i64 u.d.d2) := (HP0.out.keep hb1).2.1 2; have x3 : w1.cell? ⟨gp, 3, none⟩ = some (.int .i64 u.d.d3) := (HP0.out.keep hb1).2.1 3)
                | (go_at_call 61; (with_reducible refine (CG.out _ (below_then HB0.out hb1)).mono ?_); rintro e1 w2 ⟨rfl, hb2⟩; have hb12 := below_then hb1 hb2; obtain ⟨y0, y1, y2, y3, y4⟩ := (HR0.out.keep hb12).c5; have x0 : w2.cell? ⟨gp, 0, none⟩ = some (.int .i64 u.d.d0) := (HP0.out.keep hb12).2.1 0; have x1 : w2.cell? ⟨gp, 1, none⟩ = some (.int .i64 u.d.d1) := (HP0.out.keep hb12).2.1 1; have x2 : w2.cell? ⟨gp, 2, none⟩ = some (.int .i64 u.d.d2) := (HP0.out.keep hb12).2.1 2; have x3 : w2.cell? ⟨gp, 3, none⟩ = some (.int .i64 u.d.d3) := (HP0.out.keep hb12).2.1 3)
                | (go_at_call 61; (with_reducible refine (CM.out _ (below_then HB0.out hb12)).mono ?_); rintro e1 w3 ⟨rfl, hb3⟩))
              have hb13 := below_then hb12 hb3
              have HB1 := Lib.hid (below_then HB0.out hb13)
              have HP1 := Lib.hid (HP0.out.keep hb13)
              have HR1 := Lib.hid (HR0.out.keep hb13)
              have hrgs : ∀ x ∈ u.d.rg, ringIn x = true := (valid_rl HV.out).2
              have HRG := Lib.hid hrgs
              clear hb1 hb2 hb3 hb12 hb13 HB0 HP0 HR0 CV CG CM y0 y1 y2 y3 y4 x0 x1 x2 x3 x8 l1 l2 hrgs
              have y3 : w3.cell? ⟨gp + 1, 3, none⟩ = some (.int .i64 cy) := HR1.out.2.1 3
              have y4 : w3.cell? ⟨gp + 1, 4, none⟩ = some (.int .i64 st) := HR1.out.2.1 4
              go_wp2_with fail
              clear y3 y4
              go_loopw [5] (fun x wr => ∃ k : Nat, k ≤ hn ∧ x = .int .i64 k ∧ Hid (∀ j, j < k → 0 ≤ hs.getD j 0 ∧ hs.getD j 0 < (u.d.rg.getD j (0, 0)).2) ∧ Hid (Box wr gp u.lst) ∧ Hid (Box wr (gp + 1) [.slice GA 8 gc, .slice MA 128 mc, .slice HA hn hc, .int .i64 cy, .int .i64 st]) ∧ Hid (Below w.heap.size w wr)) (fun x _ => hn - (intOf x).toNat)
              case atStart => exact ⟨0, Nat.zero_le _, rfl, Lib.hid (fun j hj => by omega), HP1, HR1, HB1⟩
              case round =>
                obtain ⟨k, hk, rfl, HK, HBP, HBR, HB⟩ := hrel
                have y2 : wr.cell? ⟨gp + 1, 2, none⟩ = some (.slice HA hn hc) := HBR.out.2.1 2
                by_cases hlt : k < hn
                · obtain ⟨ha, hd, e1, hbk, hx, hcc, i1, i2⟩ := (HHA.out.grow HB.out).at_ (k := k) (by rw [HHN.out]; exact hlt)
                  subst e1
                  obtain ⟨⟨xb, xl⟩, hxr⟩ : ∃ x, u.d.rg[k]? = some x := ⟨_, List.getElem?_eq_getElem (by rw [HRN.out]; exact hlt)⟩
                  obtain ⟨ad, hA, -, el, -, -⟩ := ring_ext (HRA.out.grow HB.out) hxr
                  have hin := ringIn_iff.1 (HRG.out _ (List.mem_of_getElem? hxr))
                  simp only at el hin
                  have e8 := HBP.out.ext (k := 8) (v := .slice u.RA hn u.rc) (lst_eight HRN.out)
                  rw [hA] at e8
                  have e2 := HBR.out.ext (k := 2) (v := .slice (some ha) hn hc) rfl
                  have hz : (ha.add k).block < wr.heap.size := by rw [block_add]; exact hbk
                  have eh : ∀ n : Ext wr, n.to.cell? (ha.add k) = some (.int .i64 hd) := fun n => (n.below.cell hz).trans hcc
                  have q1 : (0 : Int) ≤ (k : Int) := by omega
                  have q2 : (k : Int) < (hn : Int) := by omega
                  have wk : IntKind.i64.wrap ((k : Int) + 1) = ((k + 1 : Nat) : Int) := (IntWalk.i64_in _ (by omega)).trans (by omega)
                  have wl : IntKind.i64.wrap (xl - 1) = xl - 1 := IntWalk.i64_in _ (by omega)
                  have HD1 : Hid (hs.getD k 0 = hd) := by rw [List.getD_eq_getElem?_getD, hx]; exact Lib.hid rfl
                  have HD2 : Hid (u.d.rg.getD k (0, 0) = (xb, xl)) := by rw [List.getD_eq_getElem?_getD, hxr]; exact Lib.hid rfl
                  obtain ⟨bi, hbi⟩ : ∃ b, inB hd 0 (xl - 1) = b := ⟨_, rfl⟩
                  have CI2 : Hid (∀ w1, Calls Tryd.prog 64 #[.int .i64 hd, .int .i64 0, .int .i64 (xl - 1)] w1 fun e w' => e = .returned (.bool bi) ∧ Below w1.heap.size w1 w') := Lib.hid fun w1 => hbi ▸ CI.out hd 0 (xl - 1) w1
                  have HBI := Lib.hid hbi
                  clear hx hxr hbk hcc hz hA hin hbi
                  go_upto_region 6 with fail
                  refine wp_region_ext (by kernel_rfl) (by kernel_rfl) ?_
                  repeat (go_big_quiet_step (first | (go_at_call 64; exact ext_below (CI2.out _))))
                  refine wpQuiet_nil ?_
                  rintro w5 ⟨⟨_, hb5⟩, rfl⟩
                  cases bi with
                  | false =>
                    have HNO := Lib.hid (HR.out false (by
                      have : headsB u.d.rg hs = false := by
                        rw [Bool.eq_false_iff]
                        intro h2
                        have h3 := headsB_at h2 (k := k) (by rw [HHN.out]; exact hlt)
                        rw [HD1.out, HD2.out] at h3
                        have h4 := HBI.out
                        rw [inB_iff.2 (by simp only at h3; omega)] at h4
                        cases h4
                      unfold macB
                      rw [HV.out, HLL.out, HBG.out, HBM.out, this]; rfl))
                    go_wp2_with fail
                    go_ret
                    exact ⟨by rw [HNO.out]; rfl, below_then HB.out hb5⟩
                  | true =>
                    have h3 := inB_iff.1 HBI.out
                    have H3 : Hid (0 ≤ hd ∧ hd < xl) := Lib.hid (by omega)
                    have HBP5 := Lib.hid (HBP.out.keep hb5)
                    have HBR5 := Lib.hid (HBR.out.keep hb5)
                    have HB5 := Lib.hid (below_then HB.out hb5)
                    clear h3 hb5 e8 e2 eh el
                    go_wp2_with fail
                    go_roundw
                    case rel => exact ⟨k + 1, by omega, by go_num, Lib.hid fun j hj => by
                      by_cases e : j = k
                      · rw [e, HD1.out, HD2.out]; exact H3.out
                      · exact HK.out j (by omega), HBP5, HBR5, HB5⟩
                    case measure => simp [intOf]; omega
                · obtain rfl : k = hn := by omega
                  have HHB : Hid (headsB u.d.rg hs = true) := by
                    unfold headsB
                    refine Lib.hid (List.all_eq_true.2 fun j hj => ?_)
                    have hj := List.mem_range.1 hj
                    rw [HHN.out] at hj
                    rw [decide_eq_true_eq]
                    exact HK.out j hj
                  have HFIN : Hid (R = (inB cy 0 1099511627776 && inB st 0 1099511627776)) := Lib.hid (HR.out _ (by
                    unfold macB
                    rw [HV.out, HLL.out, HBG.out, HBM.out, HHB.out]
                    simp only [Bool.true_and]))
                  have z3 : wr.cell? ⟨gp + 1, 3, none⟩ = some (.int .i64 cy) := HBR.out.2.1 3
                  have z4 : wr.cell? ⟨gp + 1, 4, none⟩ = some (.int .i64 st) := HBR.out.2.1 4
                  obtain ⟨b1, hb1⟩ : ∃ b, inB cy 0 1099511627776 = b := ⟨_, rfl⟩
                  obtain ⟨b2, hb2⟩ : ∃ b, inB st 0 1099511627776 = b := ⟨_, rfl⟩
                  rw [hb1, hb2] at HFIN
                  have C1 : Hid (∀ w1, Calls Tryd.prog 64 #[.int .i64 cy, .int .i64 0, .int .i64 1099511627776] w1 fun e w' => e = .returned (.bool b1) ∧ w1 = w') := Lib.hid fun w1 => hb1 ▸ rf_In cy 0 1099511627776 w1
                  have C2 : Hid (∀ w1, Calls Tryd.prog 64 #[.int .i64 st, .int .i64 0, .int .i64 1099511627776] w1 fun e w' => e = .returned (.bool b2) ∧ w1 = w') := Lib.hid fun w1 => hb2 ▸ rf_In st 0 1099511627776 w1
                  clear hlt hb1 hb2
                  cases b1 with
                  | false =>
                    go_wp2_with (go_at_call 64; (with_reducible refine (C1.out _).mono ?_); rintro e1 w6 ⟨rfl, rfl⟩)
                    go_ret
                    exact ⟨by rw [HFIN.out]; rfl, HB.out⟩
                  | true =>
                    go_wp2_with (go_at_call 64; first | ((with_reducible refine (C1.out _).mono ?_); rintro e1 w6 ⟨rfl, rfl⟩) | ((with_reducible refine (C2.out _).mono ?_); rintro e1 w6 ⟨rfl, rfl⟩))
                    go_ret
                    exact ⟨by rw [HFIN.out]; rfl, HB.out⟩
        · have HLL : Hid (decide (rs.length = 8 ∧ ms.length = 128 ∧ hs.length = u.d.rg.length) = false) := Lib.hid (decide_eq_false (by rw [HHN.out, HRN.out]; omega))
          have g1 : ((hn : Int) == (rn : Int)) = false := beq_eq_false_iff_ne.2 (by omega)
          have g2 : decide ((hn : Int) = (rn : Int)) = false := decide_eq_false (by omega)
          have g3 : (hn == rn) = false := by simpa using hl3
          have g4 : ((hn : Int) != (rn : Int)) = true := bne_iff_ne.2 (by omega)
          have HNO := Lib.hid (HR.out false (by unfold macB; rw [HV.out, HLL.out]; rfl))
          go_wp2_with (first
            | ((with_reducible show wpList _ _ _ (Oper.mk _ (.load 43 _) _ _ _ _ :: _) _ _); refine ld_prg HP0.out (lst_ten u) rfl _ rfl rfl ?_)
            | (go_at_call 29; (with_reducible refine (CV.out _ HB0.out).mono ?_); rintro e1 w1 ⟨rfl, hb1⟩; obtain ⟨y0, y1, y2, y3, y4⟩ := (HR0.out.keep hb1).c5; have x8 : w1.cell? ⟨gp, 8, none⟩ = some (.slice u.RA _ u.rc) := ((HP0.out.keep hb1).2.1 8).trans (lst_eight HRN.out); have x0 : w1.cell? ⟨gp, 0, none⟩ = some (.int .i64 u.d.d0) := (HP0.out.keep hb1).2.1 0; have x1 : w1.cell? ⟨gp, 1, none⟩ = some (.int .i64 u.d.d1) := (HP0.out.keep hb1).2.1 1; have x2 : w1.cell? ⟨gp, 2, none⟩ = some (.int .i64 u.d.d2) := (HP0.out.keep hb1).2.1 2; have x3 : w1.cell? ⟨gp, 3, none⟩ = some (.int .i64 u.d.d3) := (HP0.out.keep hb1).2.1 3))
          go_ret
          exact ⟨by rw [HNO.out]; rfl, below_then HB0.out hb1⟩
      · have HLL : Hid (decide (rs.length = 8 ∧ ms.length = 128 ∧ hs.length = u.d.rg.length) = false) := Lib.hid (decide_eq_false (by rw [HMN.out]; omega))
        have g1 : ((mn : Int) == 128) = false := by simp; omega
        have g4 : ((mn : Int) != 128) = true := by simp; omega
        have HNO := Lib.hid (HR.out false (by unfold macB; rw [HV.out, HLL.out]; rfl))
        go_wp2_with (first
          | ((with_reducible show wpList _ _ _ (Oper.mk _ (.load 43 _) _ _ _ _ :: _) _ _); refine ld_prg HP0.out (lst_ten u) rfl _ rfl rfl ?_)
          | (go_at_call 29; (with_reducible refine (CV.out _ HB0.out).mono ?_); rintro e1 w1 ⟨rfl, hb1⟩; obtain ⟨y0, y1, y2, y3, y4⟩ := (HR0.out.keep hb1).c5; have x8 : w1.cell? ⟨gp, 8, none⟩ = some (.slice u.RA _ u.rc) := ((HP0.out.keep hb1).2.1 8).trans (lst_eight HRN.out); have x0 : w1.cell? ⟨gp, 0, none⟩ = some (.int .i64 u.d.d0) := (HP0.out.keep hb1).2.1 0; have x1 : w1.cell? ⟨gp, 1, none⟩ = some (.int .i64 u.d.d1) := (HP0.out.keep hb1).2.1 1; have x2 : w1.cell? ⟨gp, 2, none⟩ = some (.int .i64 u.d.d2) := (HP0.out.keep hb1).2.1 2; have x3 : w1.cell? ⟨gp, 3, none⟩ = some (.int .i64 u.d.d3) := (HP0.out.keep hb1).2.1 3))
        go_ret
        exact ⟨by rw [HNO.out]; rfl, below_then HB0.out hb1⟩
    · have HLL : Hid (decide (rs.length = 8 ∧ ms.length = 128 ∧ hs.length = u.d.rg.length) = false) := Lib.hid (decide_eq_false (by rw [HGN.out]; omega))
      have g1 : ((gn : Int) == 8) = false := by simp; omega
      have g4 : ((gn : Int) != 8) = true := by simp; omega
      have HNO := Lib.hid (HR.out false (by unfold macB; rw [HV.out, HLL.out]; rfl))
      go_wp2_with (first
        | ((with_reducible show wpList _ _ _ (Oper.mk _ (.load 43 _) _ _ _ _ :: _) _ _); refine ld_prg HP0.out (lst_ten u) rfl _ rfl rfl ?_)
        | (go_at_call 29; (with_reducible refine (CV.out _ HB0.out).mono ?_); rintro e1 w1 ⟨rfl, hb1⟩; obtain ⟨y0, y1, y2, y3, y4⟩ := (HR0.out.keep hb1).c5; have x8 : w1.cell? ⟨gp, 8, none⟩ = some (.slice u.RA _ u.rc) := ((HP0.out.keep hb1).2.1 8).trans (lst_eight HRN.out); have x0 : w1.cell? ⟨gp, 0, none⟩ = some (.int .i64 u.d.d0) := (HP0.out.keep hb1).2.1 0; have x1 : w1.cell? ⟨gp, 1, none⟩ = some (.int .i64 u.d.d1) := (HP0.out.keep hb1).2.1 1; have x2 : w1.cell? ⟨gp, 2, none⟩ = some (.int .i64 u.d.d2) := (HP0.out.keep hb1).2.1 2; have x3 : w1.cell? ⟨gp, 3, none⟩ = some (.int .i64 u.d.d3) := (HP0.out.keep hb1).2.1 3))
      go_ret
      exact ⟨by rw [HNO.out]; rfl, below_then HB0.out hb1⟩
end Go.Proofs.YtgdccmmcjicgkaaDoor
