/- place of package simulate. -/
import Derived.Test.YtdiflpbioohddaaDoortS18
set_option linter.unusedVariables false
set_option linter.unusedSimpArgs false
namespace Go.Proofs.YtdiflpbioohddaaDoor
open Go.RowKit
theorem lst_eight {u : PrgA} {n : Nat} (h : u.d.rg.length = n) : u.lst[8]? = some (.slice u.RA n u.rc) := by rw [← h]; rfl
theorem size_mac : (Tryd.prog.info? 32).map (·.size) = some 5 := by kernel_rfl
theorem row_mac : ∃ d, Tryd.prog.underlying 32 = some d ∧ d.isRow = true := ⟨_, Tryd.underlying32, rfl⟩
set_option maxRecDepth 100000 in
set_option maxHeartbeats 4000000 in
theorem sm_place (u : PrgA) (A1 A2 HA : Option Addr) (n1 m1 n2 m2 hn hc ka : Nat) (hs : List Int) (cy st kw : Int) (w : World) (hp : RingsAt w u.RA u.d.rg) (hv : validB u.d = true) (hh : Ints w HA hs) (hl : hs.length = hn) (hk : ka < u.d.rg.length) (hkn : ka < hn) (h0 : 0 ≤ hs.getD ka 0 ∧ hs.getD ka 0 < (u.d.rg.getD ka (0, 0)).2) (hw : 0 ≤ kw ∧ kw ≤ 128) :
  Calls Tryd.prog 92 #[.agg u.lst.toArray, .agg #[.slice A1 n1 m1, .slice A2 n2 m2, .slice HA hn hc, .int .i64 cy, .int .i64 st], .int .i64 (ka : Int), .int .i64 kw] w fun e w' => e = .returned (.int .i64 (plc u.d hs ka kw)) ∧ Below w.heap.size w w' := by
 obtain ⟨rn, hrn⟩ : ∃ n, u.d.rg.length = n := ⟨_, rfl⟩
 obtain ⟨⟨xb, xl⟩, hx⟩ : ∃ x, u.d.rg[ka]? = some x := ⟨_, List.getElem?_eq_getElem hk⟩
 have hr := ringIn_iff.1 (valid_ring hv hk)
 have hg : u.d.rg.getD ka (0, 0) = (xb, xl) := by rw [List.getD_eq_getElem?_getD, hx]; rfl
 rw [hg] at hr h0
 simp only at hr h0
 obtain ⟨hd, hhd⟩ : ∃ v, hs.getD ka 0 = v := ⟨_, rfl⟩
 rw [hhd] at h0
 have hxh : hs[ka]? = some hd := by rw [List.getD_eq_getElem?_getD, List.getElem?_eq_getElem (by omega)] at hhd; rw [List.getElem?_eq_getElem (by omega)]; exact congrArg some hhd
 have HPL : Hid (plc u.d hs ka kw = xb + (hd + kw) % xl) := by
  unfold plc rgA
  rw [show ((ka : Int)).toNat = ka from rfl, hg, hhd]
  exact Lib.hid rfl
 obtain ⟨rr, hrr⟩ : ∃ r, (hd + kw) % xl = r := ⟨_, rfl⟩
 rw [hrr] at HPL
 have e1 := Int.emod_nonneg (hd + kw) (show xl ≠ 0 by omega)
 have e2 := Int.emod_lt_of_pos (hd + kw) (show 0 < xl by omega)
 rw [hrr] at e1 e2
 have htm : (hd + kw).tmod xl = rr := by rw [Int.tmod_eq_emod_of_nonneg (by omega)]; exact hrr
 have HL8 := Lib.hid (lst_eight hrn)
 have HP := Lib.hid hp
 have HH := Lib.hid hh
 have HX := Lib.hid hx
 have HXH := Lib.hid hxh
 have HL := Lib.hid hl
 rw [hrn] at hk
 clear hp hv hh hrn hx hg hhd hxh hrr hl
 have q1 : (0 : Int) ≤ (ka : Int) := by omega
 have q2 : (ka : Int) < (rn : Int) := by omega
 have q3 : (ka : Int) < (hn : Int) := by omega
 go_enter Tryd.func92, Tryd.ntmps92
 go_upto_region 1 with fail
 obtain ⟨bp, br, hb0⟩ := entryPM w u.lst [.slice A1 n1 m1, .slice A2 n2 m2, .slice HA hn hc, .int .i64 cy, .int .i64 st] _ rfl
 change Code.wp _ _ _ _ ((w.alloc (.cells u.lst.toArray 41)).alloc (.cells [.slice A1 n1 m1, .slice A2 n2 m2, .slice HA hn hc, .int .i64 cy, .int .i64 st].toArray 32))
 generalize ((w.alloc (.cells u.lst.toArray 41)).alloc (.cells [.slice A1 n1 m1, .slice A2 n2 m2, .slice HA hn hc, .int .i64 cy, .int .i64 st].toArray 32)) = W0 at bp br hb0 ⊢
 have HB0 := Lib.hid hb0
 have HBP0 := Lib.hid bp
 have HBR0 := Lib.hid br
 have x8 : W0.cell? ⟨w.heap.size, 8, none⟩ = some (.slice u.RA rn u.rc) := (bp.2.1 8).trans HL8.out
 obtain ⟨ad, hA, hsp, hbl, hrr, -⟩ := (HP.out.grow hb0) ka (xb, xl) HX.out
 obtain ⟨r0, r1⟩ := ring_cells hsp hrr
 simp only at r0 r1
 have hRA := hA
 rw [hA] at x8
 clear hb0 bp br hsp hbl hrr
 generalize w.heap.size = gp at HBP0 HBR0 x8 ⊢
 go_upto_region 2 with (first
  | ((with_reducible show wpList _ _ _ (Oper.mk _ (.store 96 _ _) _ _ _ _ :: _) _ _); refine st_ring (w := W0.alloc (.cells #[.int .i64 0, .int .i64 0] 96)) (g := W0.heap.size) (Box.new rfl) rfl _ _ rfl rfl rfl ?_; intro W2 b2 p2))
 have hb2 := put_facts ((Below.refl W0.heap.size W0).alloc (Nat.le_refl _) (.cells #[.int .i64 0, .int .i64 0] 96)) (Nat.le_refl _) p2
 have HB2 := Lib.hid (below_then HB0.out hb2)
 have hbr2 := HBR0.out.keep hb2
 obtain ⟨ha, hv', e3, hbk, hx', hcc, i1, i2⟩ := (HH.out.grow HB2.out).at_ (k := ka) (by rw [HL.out]; omega)
 subst e3
 have hve : hv' = hd := by rw [HXH.out] at hx'; injection hx' with hx'; exact hx'.symm
 subst hve
 have hz : (ha.add ka).block < W2.heap.size := by rw [block_add]; exact hbk
 have y1 : ∀ n : Ext W2, n.to.cell? (ha.add ka) = some (.int .i64 hv') := fun n => (n.below.cell hz).trans hcc
 have y2 := hbr2.ext (k := 2) (v := .slice (some ha) hn hc) rfl
 have y3 := b2.ext (k := 0) (v := .int .i64 xb) rfl
 have y4 := b2.ext (k := 1) (v := .int .i64 xl) rfl
 clear hb2 hbr2 p2 b2 hbk hx' hcc hz r0 r1 x8
 generalize W0.heap.size = gr at y3 y4 ⊢
 have s1 : IntKind.i64.wrap (hv' + kw) = hv' + kw := IntWalk.i64_in _ (by omega)
 have s2 : IntKind.i64.wrap (xb + rr) = xb + rr := IntWalk.i64_in _ (by omega)
 have hx0 : ¬ xl = 0 := by omega
 have hx1 : (xl == 0) = false := by simpa using hx0
 simp only [Act.put]
 refine wp_region_ext (by kernel_rfl) (by kernel_rfl) ?_
 repeat (go_big_quiet_step (fail))
 refine wpQuiet_nil ?_
 rintro w3 ⟨⟨_, hb3⟩, rfl⟩
 go_wp2_with fail
 go_ret
 exact ⟨by rw [HPL.out]; rfl, below_then HB2.out hb3⟩
end Go.Proofs.YtdiflpbioohddaaDoor
