/- suits of package processor. Printed by gen_s4.py. -/
import Derived.Test.YtdiflpbioohddaaDoortCtoCa
set_option linter.unusedVariables false
set_option linter.unusedSimpArgs false
namespace Go.Proofs.YtdiflpbioohddaaDoor
open Go.RowKit
theorem fits_is {b f r o v : Int} {c : Bool} (h : fitsW b f r o v = c) (w : World) : Calls Tryd.prog 40 #[wordV b f r o, .int .i64 v] w fun e w' => e = .returned (.bool c) ∧ Below w.heap.size w w' := by
 rw [← h]; exact fx_Fits _ _ _ _ _ w
theorem entryPI (w : World) (L : List Value) (i : Ins) : ∀ W, W = ((w.alloc (.cells L.toArray 41)).alloc (.cells i.cells.toArray 109)) → Box W w.heap.size L ∧ Box W (w.heap.size + 1) i.cells ∧ Below w.heap.size w W := fun W hW => by
 subst hW
 have h1 : Box (w.alloc (.cells L.toArray 41)) w.heap.size L := Box.new rfl
 have h2 : Box ((w.alloc (.cells L.toArray 41)).alloc (.cells i.cells.toArray 109)) (w.heap.size + 1) i.cells := Box.new (by simp)
 exact ⟨h1.alloc _, h2, ((Below.refl w.heap.size w).alloc (Nat.le_refl _) _).alloc (by simp) _⟩
theorem ops12f {i : Ins} (hf : i.formed = true) : i.op = 0 ∨ i.op = 1 ∨ i.op = 2 ∨ i.op = 3 ∨ i.op = 4 ∨ i.op = 5 ∨ i.op = 6 ∨ i.op = 7 ∨ i.op = 8 ∨ i.op = 9 ∨ i.op = 10 ∨ i.op = 11 := by
 obtain ⟨h, -, -, -⟩ := formed_parts hf
 omega
theorem Box.ext {w : World} {g k : Nat} {vs : List Value} {v : Value} (h : Box w g vs) (hv : vs[k]? = some v) : ∀ n : Ext w, n.to.cell? ⟨g, k, none⟩ = some v := fun n => (n.below.cell (p := ⟨g, k, none⟩) h.1).trans ((h.2.1 k).trans hv)
theorem Box.c10 {w : World} {g : Nat} {a b c d e f h i j k : Value} (x : Box w g [a, b, c, d, e, f, h, i, j, k]) : (w.cell? ⟨g, 0, none⟩ = some a ∧ w.cell? ⟨g, 1, none⟩ = some b ∧ w.cell? ⟨g, 2, none⟩ = some c ∧ w.cell? ⟨g, 3, none⟩ = some d) ∧ (w.cell? ⟨g, 4, none⟩ = some e ∧ w.cell? ⟨g, 5, none⟩ = some f ∧ w.cell? ⟨g, 6, none⟩ = some h ∧ w.cell? ⟨g, 7, none⟩ = some i) ∧ w.cell? ⟨g, 8, none⟩ = some j ∧ w.cell? ⟨g, 9, none⟩ = some k :=
 ⟨⟨x.2.1 0, x.2.1 1, x.2.1 2, x.2.1 3⟩, ⟨x.2.1 4, x.2.1 5, x.2.1 6, x.2.1 7⟩, x.2.1 8, x.2.1 9⟩
set_option maxRecDepth 100000 in
set_option maxHeartbeats 4000000 in
theorem pr_suits (u : PrgA) (g : Nat) (i : Ins) (w : World) (hf : FormsAt w) (hp : RingsAt w u.RA u.d.rg) (hl : u.d.rg.length ≤ 8) (hw : okW u.d.c0 u.d.c1 u.d.c2 u.d.c3 = true) (hg : g < w.heap.size) (hU : ∀ m : Nat, m < 128 → w.cell? ⟨g, m, none⟩ = some (.bool (usdB u.d.rg m))) (r : Bool) (hr : suitB u.d i = r) :
  Calls Tryd.prog 101 #[u.v, .slice (some ⟨g, 0, none⟩) 128 128, i.v] w fun e w' => e = .returned (.bool r) ∧ Below w.heap.size w w' := by
 obtain ⟨⟨d0, d1, d2, d3, c0, c1, c2, c3, rg, code⟩, RA, CA, rc, cc⟩ := u
 obtain ⟨op, a, b, imm⟩ := i
 simp only at hp hl hw hU
 obtain ⟨rn, hrn⟩ : ∃ n, rg.length = n := ⟨_, rfl⟩
 obtain ⟨cn, hcn⟩ : ∃ n, code.length = n := ⟨_, rfl⟩
 have hgoal : ∀ {R : Ending → World → Prop}, Calls Tryd.prog 101 #[.agg #[.int .i64 d0, .int .i64 d1, .int .i64 d2, .int .i64 d3, .int .i64 c0, .int .i64 c1, .int .i64 c2, .int .i64 c3, .slice RA rn rc, .slice CA cn cc], .slice (some ⟨g, 0, none⟩) 128 128, .agg #[.int .i64 op, .int .i64 a, .int .i64 b, .int .i64 imm]] w R →
   Calls Tryd.prog 101 #[PrgA.v ⟨⟨d0, d1, d2, d3, c0, c1, c2, c3, rg, code⟩, RA, CA, rc, cc⟩, .slice (some ⟨g, 0, none⟩) 128 128, Ins.v ⟨op, a, b, imm⟩] w R := fun h => by
  unfold PrgA.v PrgA.lst
  simp only [hrn, hcn]
  exact h
 refine hgoal ?_
 clear hgoal
 rw [hrn] at hl
 obtain ⟨FB, hFB⟩ : ∃ c, Ins.formed ⟨op, a, b, imm⟩ = c := ⟨_, rfl⟩
 have CF : Hid (∀ w1, Below w.heap.size w w1 → Calls Tryd.prog 110 #[.agg #[.int .i64 op, .int .i64 a, .int .i64 b, .int .i64 imm]] w1 fun e w' => e = .returned (.bool FB) ∧ Below w1.heap.size w1 w') := fun w1 hb => by
  rw [← hFB]; exact pr_formed ⟨op, a, b, imm⟩ w1 (hf.grow hb)
 have hok := okW_iff.1 hw
 have HF := Lib.hid hf
 have HP := Lib.hid hp
 have HU := Lib.hid hU
 have HG := Lib.hid hg
 have HW := Lib.hid hw
 have HRN := Lib.hid hrn
 have HR := Lib.hid hr
 have HFB := Lib.hid hFB
 clear hf hp hU hg hw hrn hcn hr hFB

 cases FB with
 | false =>
  obtain rfl : r = false := by rw [← HR.out]; unfold suitB; rw [HFB.out]; rfl
  go_enter Tryd.func101, Tryd.ntmps101
  go_upto_region 1 with fail
  obtain ⟨bp, bi, hb0⟩ := entryPI w [.int .i64 d0, .int .i64 d1, .int .i64 d2, .int .i64 d3, .int .i64 c0, .int .i64 c1, .int .i64 c2, .int .i64 c3, .slice RA rn rc, .slice CA cn cc] ⟨op, a, b, imm⟩ _ rfl
  change Code.wp _ _ _ _ ((w.alloc (.cells [.int .i64 d0, .int .i64 d1, .int .i64 d2, .int .i64 d3, .int .i64 c0, .int .i64 c1, .int .i64 c2, .int .i64 c3, .slice RA rn rc, .slice CA cn cc].toArray 41)).alloc (.cells (Ins.cells ⟨op, a, b, imm⟩).toArray 109))
  generalize ((w.alloc (.cells [.int .i64 d0, .int .i64 d1, .int .i64 d2, .int .i64 d3, .int .i64 c0, .int .i64 c1, .int .i64 c2, .int .i64 c3, .slice RA rn rc, .slice CA cn cc].toArray 41)).alloc (.cells (Ins.cells ⟨op, a, b, imm⟩).toArray 109)) = W0 at bp bi hb0 ⊢
  have HB0 := Lib.hid hb0
  have HBP := Lib.hid bp
  obtain ⟨z0, z1, z2, z3⟩ := bi.c4
  have HBI := Lib.hid bi
  clear hb0 bp bi
  generalize hgp : w.heap.size = gp at HBP HBI z0 z1 z2 z3 ⊢
  have HGP := Lib.hid hgp
  clear hgp
  go_upto_region 2 with (go_at_call 110; (with_reducible refine (CF.out _ HB0.out).mono ?_); rintro e1 w1 ⟨rfl, hb1⟩)
  have bp1 := HBP.out.keep hb1
  have bi1 := HBI.out.keep hb1
  obtain ⟨⟨x0, x1, x2, x3⟩, ⟨x4, x5, x6, x7⟩, x8, x9⟩ := bp1.c10
  obtain ⟨y0, y1, y2, y3⟩ := bi1.c4
  have HB1 := Lib.hid (below_then HB0.out hb1)
  have HBP1 := Lib.hid bp1
  have HBI1 := Lib.hid bi1
  clear z0 z1 z2 z3 hb1 HBP HBI CF bp1 bi1
  go_wp2_with fail
  go_ret
  exact ⟨rfl, HB1.out⟩
 | true =>
  have hc := ops12f HFB.out
  simp only at hc
  rcases hc with rfl | rfl | rfl | rfl | rfl | rfl | rfl | rfl | rfl | rfl | rfl | rfl
  ·obtain rfl : r = true := by rw [← HR.out]; unfold suitB; rw [HFB.out]; simp [fitI]
   go_enter Tryd.func101, Tryd.ntmps101
   go_upto_region 1 with fail
   obtain ⟨bp, bi, hb0⟩ := entryPI w [.int .i64 d0, .int .i64 d1, .int .i64 d2, .int .i64 d3, .int .i64 c0, .int .i64 c1, .int .i64 c2, .int .i64 c3, .slice RA rn rc, .slice CA cn cc] ⟨0, a, b, imm⟩ _ rfl
   change Code.wp _ _ _ _ ((w.alloc (.cells [.int .i64 d0, .int .i64 d1, .int .i64 d2, .int .i64 d3, .int .i64 c0, .int .i64 c1, .int .i64 c2, .int .i64 c3, .slice RA rn rc, .slice CA cn cc].toArray 41)).alloc (.cells (Ins.cells ⟨0, a, b, imm⟩).toArray 109))
   generalize ((w.alloc (.cells [.int .i64 d0, .int .i64 d1, .int .i64 d2, .int .i64 d3, .int .i64 c0, .int .i64 c1, .int .i64 c2, .int .i64 c3, .slice RA rn rc, .slice CA cn cc].toArray 41)).alloc (.cells (Ins.cells ⟨0, a, b, imm⟩).toArray 109)) = W0 at bp bi hb0 ⊢
   have HB0 := Lib.hid hb0
   have HBP := Lib.hid bp
   obtain ⟨z0, z1, z2, z3⟩ := bi.c4
   have HBI := Lib.hid bi
   clear hb0 bp bi
   generalize hgp : w.heap.size = gp at HBP HBI z0 z1 z2 z3 ⊢
   have HGP := Lib.hid hgp
   clear hgp
   go_upto_region 3 with (go_at_call 110; (with_reducible refine (CF.out _ HB0.out).mono ?_); rintro e1 w1 ⟨rfl, hb1⟩)
   have bp1 := HBP.out.keep hb1
   have bi1 := HBI.out.keep hb1
   obtain ⟨⟨x0, x1, x2, x3⟩, ⟨x4, x5, x6, x7⟩, x8, x9⟩ := bp1.c10
   obtain ⟨y0, y1, y2, y3⟩ := bi1.c4
   have HB1 := Lib.hid (below_then HB0.out hb1)
   have HBP1 := Lib.hid bp1
   have HBI1 := Lib.hid bi1
   clear z0 z1 z2 z3 hb1 HBP HBI CF bp1 bi1
   have q : w1.cell? ⟨0, 3, none⟩ = some (.int .i64 0) := ((HF.out.grow HB1.out).cells 0 (by decide)).2.2
   go_wp2_with fail
   go_ret
   exact ⟨rfl, HB1.out⟩
  ·obtain rfl : r = true := by rw [← HR.out]; unfold suitB; rw [HFB.out]; simp [fitI]
   go_enter Tryd.func101, Tryd.ntmps101
   go_upto_region 1 with fail
   obtain ⟨bp, bi, hb0⟩ := entryPI w [.int .i64 d0, .int .i64 d1, .int .i64 d2, .int .i64 d3, .int .i64 c0, .int .i64 c1, .int .i64 c2, .int .i64 c3, .slice RA rn rc, .slice CA cn cc] ⟨1, a, b, imm⟩ _ rfl
   change Code.wp _ _ _ _ ((w.alloc (.cells [.int .i64 d0, .int .i64 d1, .int .i64 d2, .int .i64 d3, .int .i64 c0, .int .i64 c1, .int .i64 c2, .int .i64 c3, .slice RA rn rc, .slice CA cn cc].toArray 41)).alloc (.cells (Ins.cells ⟨1, a, b, imm⟩).toArray 109))
   generalize ((w.alloc (.cells [.int .i64 d0, .int .i64 d1, .int .i64 d2, .int .i64 d3, .int .i64 c0, .int .i64 c1, .int .i64 c2, .int .i64 c3, .slice RA rn rc, .slice CA cn cc].toArray 41)).alloc (.cells (Ins.cells ⟨1, a, b, imm⟩).toArray 109)) = W0 at bp bi hb0 ⊢
   have HB0 := Lib.hid hb0
   have HBP := Lib.hid bp
   obtain ⟨z0, z1, z2, z3⟩ := bi.c4
   have HBI := Lib.hid bi
   clear hb0 bp bi
   generalize hgp : w.heap.size = gp at HBP HBI z0 z1 z2 z3 ⊢
   have HGP := Lib.hid hgp
   clear hgp
   go_upto_region 3 with (go_at_call 110; (with_reducible refine (CF.out _ HB0.out).mono ?_); rintro e1 w1 ⟨rfl, hb1⟩)
   have bp1 := HBP.out.keep hb1
   have bi1 := HBI.out.keep hb1
   obtain ⟨⟨x0, x1, x2, x3⟩, ⟨x4, x5, x6, x7⟩, x8, x9⟩ := bp1.c10
   obtain ⟨y0, y1, y2, y3⟩ := bi1.c4
   have HB1 := Lib.hid (below_then HB0.out hb1)
   have HBP1 := Lib.hid bp1
   have HBI1 := Lib.hid bi1
   clear z0 z1 z2 z3 hb1 HBP HBI CF bp1 bi1
   have q : w1.cell? ⟨0, 7, none⟩ = some (.int .i64 0) := ((HF.out.grow HB1.out).cells 1 (by decide)).2.2
   go_wp2_with fail
   go_ret
   exact ⟨rfl, HB1.out⟩
  ·go_enter Tryd.func101, Tryd.ntmps101
   go_upto_region 1 with fail
   obtain ⟨bp, bi, hb0⟩ := entryPI w [.int .i64 d0, .int .i64 d1, .int .i64 d2, .int .i64 d3, .int .i64 c0, .int .i64 c1, .int .i64 c2, .int .i64 c3, .slice RA rn rc, .slice CA cn cc] ⟨2, a, b, imm⟩ _ rfl
   change Code.wp _ _ _ _ ((w.alloc (.cells [.int .i64 d0, .int .i64 d1, .int .i64 d2, .int .i64 d3, .int .i64 c0, .int .i64 c1, .int .i64 c2, .int .i64 c3, .slice RA rn rc, .slice CA cn cc].toArray 41)).alloc (.cells (Ins.cells ⟨2, a, b, imm⟩).toArray 109))
   generalize ((w.alloc (.cells [.int .i64 d0, .int .i64 d1, .int .i64 d2, .int .i64 d3, .int .i64 c0, .int .i64 c1, .int .i64 c2, .int .i64 c3, .slice RA rn rc, .slice CA cn cc].toArray 41)).alloc (.cells (Ins.cells ⟨2, a, b, imm⟩).toArray 109)) = W0 at bp bi hb0 ⊢
   have HB0 := Lib.hid hb0
   have HBP := Lib.hid bp
   obtain ⟨z0, z1, z2, z3⟩ := bi.c4
   have HBI := Lib.hid bi
   clear hb0 bp bi
   generalize hgp : w.heap.size = gp at HBP HBI z0 z1 z2 z3 ⊢
   have HGP := Lib.hid hgp
   clear hgp
   go_upto_region 3 with (go_at_call 110; (with_reducible refine (CF.out _ HB0.out).mono ?_); rintro e1 w1 ⟨rfl, hb1⟩)
   have bp1 := HBP.out.keep hb1
   have bi1 := HBI.out.keep hb1
   obtain ⟨⟨x0, x1, x2, x3⟩, ⟨x4, x5, x6, x7⟩, x8, x9⟩ := bp1.c10
   obtain ⟨y0, y1, y2, y3⟩ := bi1.c4
   have HB1 := Lib.hid (below_then HB0.out hb1)
   have HBP1 := Lib.hid bp1
   have HBI1 := Lib.hid bi1
   clear z0 z1 z2 z3 hb1 HBP HBI CF bp1 bi1
   have q := ((HF.out.grow HB1.out).cells 2 (by decide)).2.2
   have q : w1.cell? ⟨0, 11, none⟩ = some (.int .i64 5) := q
   obtain ⟨P, hP⟩ : ∃ P, (2 : Int) ^ c1.toNat = P := ⟨_, rfl⟩
   have hsh : wrap64 (2 ^ c1.toNat) = P := by rw [← hP]; exact w64_pow (by omega)
   have hc0 : 0 ≤ c1 := by omega
   have hc62 : c1 < 64 := by omega
   obtain ⟨fb, hfb⟩ : ∃ c, fitsW c0 c1 c2 c3 imm = c := ⟨_, rfl⟩
   go_upto_region 18 with fail
   have e1 := HBP1.out.ext (k := 4) (v := .int .i64 c0) rfl
   have e2 := HBP1.out.ext (k := 5) (v := .int .i64 c1) rfl
   have e3 := HBP1.out.ext (k := 6) (v := .int .i64 c2) rfl
   have e4 := HBP1.out.ext (k := 7) (v := .int .i64 c3) rfl
   have e5 := HBI1.out.ext (k := 3) (v := .int .i64 imm) rfl
   have HFI := Lib.hid hfb
   have HPP := Lib.hid hP
   clear hfb hP
   cases fb with
   | true =>
    obtain rfl : r = true := by rw [← HR.out]; unfold suitB; rw [HFB.out]; simp [fitI, HFI.out]
    refine wp_region_ext (by kernel_rfl) (by kernel_rfl) ?_
    repeat (go_big_quiet_step (first | (go_at_call 40; exact ext_below (fits_is HFI.out _))))
    refine wpQuiet_nil ?_
    rintro _ ⟨⟨w2, hb2⟩, rfl⟩
    go_wp2_with fail
    go_ret
    exact ⟨rfl, below_then HB1.out hb2⟩
   | false =>
    by_cases hi : imm = P
    ·obtain rfl : r = true := by rw [← HR.out]; unfold suitB; rw [HFB.out]; simp [fitI, HPP.out, hi]
     have hi1 : (imm == P) = true := by simpa using hi
     have HII := Lib.hid hi
     clear hi
     refine wp_region_ext (by kernel_rfl) (by kernel_rfl) ?_
     repeat (go_big_quiet_step (first | (go_at_call 40; exact ext_below (fits_is HFI.out _))))
     refine wpQuiet_nil ?_
     rintro _ ⟨⟨w2, hb2⟩, rfl⟩
     go_wp2_with fail
     go_ret
     exact ⟨rfl, below_then HB1.out hb2⟩
    ·obtain rfl : r = false := by rw [← HR.out]; unfold suitB; rw [HFB.out]; simp [fitI, HFI.out, HPP.out, hi]
     have hi1 : (imm == P) = false := by simpa using hi
     clear hi
     refine wp_region_ext (by kernel_rfl) (by kernel_rfl) ?_
     repeat (go_big_quiet_step (first | (go_at_call 40; exact ext_below (fits_is HFI.out _))))
     refine wpQuiet_nil ?_
     rintro _ ⟨⟨w2, hb2⟩, rfl⟩
     go_wp2_with fail
     go_ret
     exact ⟨rfl, below_then HB1.out hb2⟩
  ·obtain ⟨-, ha, hb, -⟩ := formed_parts HFB.out
   simp only at ha hb
   obtain ⟨ka, rfl⟩ := Int.eq_ofNat_of_zero_le ha.1
   have hk0 : (0 : Int) ≤ (ka : Int) := by omega
   have hk1 : (ka : Int) < 128 := by omega
   have hk2 : ka < 128 := by omega
   have HUM := Lib.hid (HU.out ka hk2)
   obtain ⟨ub, hub⟩ : ∃ c, usdB rg (ka : Int) = c := ⟨_, rfl⟩
   rw [hub] at HUM
   have HUB := Lib.hid hub
   clear hub
   cases ub with
   | true =>
    obtain rfl : r = false := by rw [← HR.out]; unfold suitB; rw [HFB.out]; simp [fitI, HUB.out]
    go_enter Tryd.func101, Tryd.ntmps101
    go_upto_region 1 with fail
    obtain ⟨bp, bi, hb0⟩ := entryPI w [.int .i64 d0, .int .i64 d1, .int .i64 d2, .int .i64 d3, .int .i64 c0, .int .i64 c1, .int .i64 c2, .int .i64 c3, .slice RA rn rc, .slice CA cn cc] ⟨3, ka, b, imm⟩ _ rfl
    change Code.wp _ _ _ _ ((w.alloc (.cells [.int .i64 d0, .int .i64 d1, .int .i64 d2, .int .i64 d3, .int .i64 c0, .int .i64 c1, .int .i64 c2, .int .i64 c3, .slice RA rn rc, .slice CA cn cc].toArray 41)).alloc (.cells (Ins.cells ⟨3, ka, b, imm⟩).toArray 109))
    generalize ((w.alloc (.cells [.int .i64 d0, .int .i64 d1, .int .i64 d2, .int .i64 d3, .int .i64 c0, .int .i64 c1, .int .i64 c2, .int .i64 c3, .slice RA rn rc, .slice CA cn cc].toArray 41)).alloc (.cells (Ins.cells ⟨3, ka, b, imm⟩).toArray 109)) = W0 at bp bi hb0 ⊢
    have HB0 := Lib.hid hb0
    have HBP := Lib.hid bp
    obtain ⟨z0, z1, z2, z3⟩ := bi.c4
    have HBI := Lib.hid bi
    clear hb0 bp bi
    generalize hgp : w.heap.size = gp at HBP HBI z0 z1 z2 z3 ⊢
    have HGP := Lib.hid hgp
    clear hgp
    go_upto_region 3 with (go_at_call 110; (with_reducible refine (CF.out _ HB0.out).mono ?_); rintro e1 w1 ⟨rfl, hb1⟩)
    have bp1 := HBP.out.keep hb1
    have bi1 := HBI.out.keep hb1
    obtain ⟨⟨x0, x1, x2, x3⟩, ⟨x4, x5, x6, x7⟩, x8, x9⟩ := bp1.c10
    obtain ⟨y0, y1, y2, y3⟩ := bi1.c4
    have HB1 := Lib.hid (below_then HB0.out hb1)
    have HBP1 := Lib.hid bp1
    have HBI1 := Lib.hid bi1
    clear z0 z1 z2 z3 hb1 HBP HBI CF bp1 bi1
    have q9 : w1.cell? ⟨g, ka, none⟩ = some (.bool true) := (HB1.out.cell (p := ⟨g, ka, none⟩) HG.out).trans HUM.out
    go_wp2_with fail
    go_ret
    exact ⟨rfl, HB1.out⟩
   | false =>
    go_enter Tryd.func101, Tryd.ntmps101
    go_upto_region 1 with fail
    obtain ⟨bp, bi, hb0⟩ := entryPI w [.int .i64 d0, .int .i64 d1, .int .i64 d2, .int .i64 d3, .int .i64 c0, .int .i64 c1, .int .i64 c2, .int .i64 c3, .slice RA rn rc, .slice CA cn cc] ⟨3, ka, b, imm⟩ _ rfl
    change Code.wp _ _ _ _ ((w.alloc (.cells [.int .i64 d0, .int .i64 d1, .int .i64 d2, .int .i64 d3, .int .i64 c0, .int .i64 c1, .int .i64 c2, .int .i64 c3, .slice RA rn rc, .slice CA cn cc].toArray 41)).alloc (.cells (Ins.cells ⟨3, ka, b, imm⟩).toArray 109))
    generalize ((w.alloc (.cells [.int .i64 d0, .int .i64 d1, .int .i64 d2, .int .i64 d3, .int .i64 c0, .int .i64 c1, .int .i64 c2, .int .i64 c3, .slice RA rn rc, .slice CA cn cc].toArray 41)).alloc (.cells (Ins.cells ⟨3, ka, b, imm⟩).toArray 109)) = W0 at bp bi hb0 ⊢
    have HB0 := Lib.hid hb0
    have HBP := Lib.hid bp
    obtain ⟨z0, z1, z2, z3⟩ := bi.c4
    have HBI := Lib.hid bi
    clear hb0 bp bi
    generalize hgp : w.heap.size = gp at HBP HBI z0 z1 z2 z3 ⊢
    have HGP := Lib.hid hgp
    clear hgp
    go_upto_region 3 with (go_at_call 110; (with_reducible refine (CF.out _ HB0.out).mono ?_); rintro e1 w1 ⟨rfl, hb1⟩)
    have bp1 := HBP.out.keep hb1
    have bi1 := HBI.out.keep hb1
    obtain ⟨⟨x0, x1, x2, x3⟩, ⟨x4, x5, x6, x7⟩, x8, x9⟩ := bp1.c10
    obtain ⟨y0, y1, y2, y3⟩ := bi1.c4
    have HB1 := Lib.hid (below_then HB0.out hb1)
    have HBP1 := Lib.hid bp1
    have HBI1 := Lib.hid bi1
    clear z0 z1 z2 z3 hb1 HBP HBI CF bp1 bi1
    have q9 : w1.cell? ⟨g, ka, none⟩ = some (.bool false) := (HB1.out.cell (p := ⟨g, ka, none⟩) HG.out).trans HUM.out
    have q := ((HF.out.grow HB1.out).cells 3 (by decide)).2.2
    have q : w1.cell? ⟨0, 15, none⟩ = some (.int .i64 5) := q
    obtain ⟨P, hP⟩ : ∃ P, (2 : Int) ^ c1.toNat = P := ⟨_, rfl⟩
    have hsh : wrap64 (2 ^ c1.toNat) = P := by rw [← hP]; exact w64_pow (by omega)
    have hc0 : 0 ≤ c1 := by omega
    have hc62 : c1 < 64 := by omega
    obtain ⟨fb, hfb⟩ : ∃ c, fitsW c0 c1 c2 c3 imm = c := ⟨_, rfl⟩
    go_upto_region 18 with fail
    have e1 := HBP1.out.ext (k := 4) (v := .int .i64 c0) rfl
    have e2 := HBP1.out.ext (k := 5) (v := .int .i64 c1) rfl
    have e3 := HBP1.out.ext (k := 6) (v := .int .i64 c2) rfl
    have e4 := HBP1.out.ext (k := 7) (v := .int .i64 c3) rfl
    have e5 := HBI1.out.ext (k := 3) (v := .int .i64 imm) rfl
    have HFI := Lib.hid hfb
    have HPP := Lib.hid hP
    clear hfb hP
    cases fb with
    | true =>
     obtain rfl : r = true := by rw [← HR.out]; unfold suitB; rw [HFB.out]; simp [fitI, HFI.out, HUB.out]
     refine wp_region_ext (by kernel_rfl) (by kernel_rfl) ?_
     repeat (go_big_quiet_step (first | (go_at_call 40; exact ext_below (fits_is HFI.out _))))
     refine wpQuiet_nil ?_
     rintro _ ⟨⟨w2, hb2⟩, rfl⟩
     go_wp2_with fail
     go_ret
     exact ⟨rfl, below_then HB1.out hb2⟩
    | false =>
     by_cases hi : imm = P
     ·obtain rfl : r = true := by rw [← HR.out]; unfold suitB; rw [HFB.out]; simp [fitI, HPP.out, hi, HUB.out]
      have hi1 : (imm == P) = true := by simpa using hi
      have HII := Lib.hid hi
      clear hi
      refine wp_region_ext (by kernel_rfl) (by kernel_rfl) ?_
      repeat (go_big_quiet_step (first | (go_at_call 40; exact ext_below (fits_is HFI.out _))))
      refine wpQuiet_nil ?_
      rintro _ ⟨⟨w2, hb2⟩, rfl⟩
      go_wp2_with fail
      go_ret
      exact ⟨rfl, below_then HB1.out hb2⟩
     ·obtain rfl : r = false := by rw [← HR.out]; unfold suitB; rw [HFB.out]; simp [fitI, HFI.out, HPP.out, hi, HUB.out]
      have hi1 : (imm == P) = false := by simpa using hi
      clear hi
      refine wp_region_ext (by kernel_rfl) (by kernel_rfl) ?_
      repeat (go_big_quiet_step (first | (go_at_call 40; exact ext_below (fits_is HFI.out _))))
      refine wpQuiet_nil ?_
      rintro _ ⟨⟨w2, hb2⟩, rfl⟩
      go_wp2_with fail
      go_ret
      exact ⟨rfl, below_then HB1.out hb2⟩
  ·obtain ⟨-, ha, hb, -⟩ := formed_parts HFB.out
   simp only at ha hb
   obtain ⟨ka, rfl⟩ := Int.eq_ofNat_of_zero_le ha.1
   obtain ⟨kb, rfl⟩ := Int.eq_ofNat_of_zero_le hb.1
   by_cases hk : ka < rn
   ·obtain ⟨xr, hxr⟩ : ∃ x, rg[ka]? = some x := ⟨_, List.getElem?_eq_getElem (by rw [HRN.out]; exact hk)⟩
    obtain ⟨ad, rfl, hs, had, hrr, -⟩ := HP.out ka xr hxr
    obtain ⟨-, hxc⟩ := ring_cells hs hrr
    have HAD := Lib.hid had
    have HXC := Lib.hid hxc
    have HXR := Lib.hid hxr
    obtain ⟨xb, xl⟩ := xr
    simp only at hxc HXC
    have hk1 : ¬ (rn : Int) ≤ (ka : Int) := by omega
    have hk2 : decide ((rn : Int) ≤ (ka : Int)) = false := decide_eq_false hk1
    have hk2n : decide (rn ≤ ka) = false := decide_eq_false (by omega)
    have hk1n : ¬ rn ≤ ka := by omega
    have hk3 : (0 : Int) ≤ (ka : Int) := by omega
    have hk4 : (ka : Int) < (rn : Int) := by omega
    clear hs had hrr hxc hxr
    by_cases hkb : (kb : Int) < xl
    ·have hkb1 : ¬ xl ≤ (kb : Int) := by omega
     have hkb2 : decide (xl ≤ (kb : Int)) = false := decide_eq_false hkb1
     go_enter Tryd.func101, Tryd.ntmps101
     go_upto_region 1 with fail
     obtain ⟨bp, bi, hb0⟩ := entryPI w [.int .i64 d0, .int .i64 d1, .int .i64 d2, .int .i64 d3, .int .i64 c0, .int .i64 c1, .int .i64 c2, .int .i64 c3, .slice (some ad) rn rc, .slice CA cn cc] ⟨4, ka, kb, imm⟩ _ rfl
     change Code.wp _ _ _ _ ((w.alloc (.cells [.int .i64 d0, .int .i64 d1, .int .i64 d2, .int .i64 d3, .int .i64 c0, .int .i64 c1, .int .i64 c2, .int .i64 c3, .slice (some ad) rn rc, .slice CA cn cc].toArray 41)).alloc (.cells (Ins.cells ⟨4, ka, kb, imm⟩).toArray 109))
     generalize ((w.alloc (.cells [.int .i64 d0, .int .i64 d1, .int .i64 d2, .int .i64 d3, .int .i64 c0, .int .i64 c1, .int .i64 c2, .int .i64 c3, .slice (some ad) rn rc, .slice CA cn cc].toArray 41)).alloc (.cells (Ins.cells ⟨4, ka, kb, imm⟩).toArray 109)) = W0 at bp bi hb0 ⊢
     have HB0 := Lib.hid hb0
     have HBP := Lib.hid bp
     obtain ⟨z0, z1, z2, z3⟩ := bi.c4
     have HBI := Lib.hid bi
     clear hb0 bp bi
     generalize hgp : w.heap.size = gp at HBP HBI z0 z1 z2 z3 ⊢
     have HGP := Lib.hid hgp
     clear hgp
     go_upto_region 3 with (go_at_call 110; (with_reducible refine (CF.out _ HB0.out).mono ?_); rintro e1 w1 ⟨rfl, hb1⟩)
     have bp1 := HBP.out.keep hb1
     have bi1 := HBI.out.keep hb1
     obtain ⟨⟨x0, x1, x2, x3⟩, ⟨x4, x5, x6, x7⟩, x8, x9⟩ := bp1.c10
     obtain ⟨y0, y1, y2, y3⟩ := bi1.c4
     have HB1 := Lib.hid (below_then HB0.out hb1)
     have HBP1 := Lib.hid bp1
     have HBI1 := Lib.hid bi1
     clear z0 z1 z2 z3 hb1 HBP HBI CF bp1 bi1
     go_upto_region 5 with fail
     have e1 := HBP1.out.ext (k := 8) (v := .slice (some ad) rn rc) rfl
     have e2 := HBI1.out.ext (k := 1) (v := .int .i64 (ka : Int)) rfl
     have e3 := HBI1.out.ext (k := 2) (v := .int .i64 (kb : Int)) rfl
     have EX := Lib.hid (fun n : Ext w1 => (n.below.cell (p := ⟨(ad.add (ka * 2)).block, (ad.add (ka * 2)).off + 1, none⟩) (by rw [block_add]; exact Nat.lt_of_lt_of_le HAD.out HB1.out.size)).trans ((HB1.out.cell (p := ⟨(ad.add (ka * 2)).block, (ad.add (ka * 2)).off + 1, none⟩) (by rw [block_add]; exact HAD.out)).trans HXC.out))
     have e4 := EX.out
     refine wp_region_ext (by kernel_rfl) (by kernel_rfl) ?_
     repeat (go_big_quiet_step (fail))
     refine wpQuiet_nil ?_
     rintro w2 ⟨⟨_, hb2⟩, rfl⟩
     have HB2 := Lib.hid (below_then HB1.out hb2)
     have HBP2 := Lib.hid (HBP1.out.keep hb2)
     have HBI2 := Lib.hid (HBI1.out.keep hb2)
     obtain ⟨⟨x0, x1, x2, x3⟩, ⟨x4, x5, x6, x7⟩, x8, x9⟩ := HBP2.out.c10
     obtain ⟨y0, y1, y2, y3⟩ := HBI2.out.c4
     clear hb2 HB1 HBP1 HBI1 e1 e2 e3
     have q := ((HF.out.grow HB2.out).cells 4 (by decide)).2.2
     have q : w2.cell? ⟨0, 19, none⟩ = some (.int .i64 5) := q
     obtain ⟨P, hP⟩ : ∃ P, (2 : Int) ^ c1.toNat = P := ⟨_, rfl⟩
     have hsh : wrap64 (2 ^ c1.toNat) = P := by rw [← hP]; exact w64_pow (by omega)
     have hc0 : 0 ≤ c1 := by omega
     have hc62 : c1 < 64 := by omega
     obtain ⟨fb, hfb⟩ : ∃ c, fitsW c0 c1 c2 c3 imm = c := ⟨_, rfl⟩
     go_upto_region 18 with fail
     have e1 := HBP2.out.ext (k := 4) (v := .int .i64 c0) rfl
     have e2 := HBP2.out.ext (k := 5) (v := .int .i64 c1) rfl
     have e3 := HBP2.out.ext (k := 6) (v := .int .i64 c2) rfl
     have e4 := HBP2.out.ext (k := 7) (v := .int .i64 c3) rfl
     have e5 := HBI2.out.ext (k := 3) (v := .int .i64 imm) rfl
     have HFI := Lib.hid hfb
     have HPP := Lib.hid hP
     clear hfb hP
     cases fb with
     | true =>
      obtain rfl : r = true := by rw [← HR.out]; unfold suitB; rw [HFB.out]; simp [fitI, HFI.out, HRN.out, List.getD_eq_getElem?_getD, HXR.out]; omega
      refine wp_region_ext (by kernel_rfl) (by kernel_rfl) ?_
      repeat (go_big_quiet_step (first | (go_at_call 40; exact ext_below (fits_is HFI.out _))))
      refine wpQuiet_nil ?_
      rintro _ ⟨⟨w3, hb3⟩, rfl⟩
      go_wp2_with fail
      go_ret
      exact ⟨rfl, below_then HB2.out hb3⟩
     | false =>
      by_cases hi : imm = P
      ·obtain rfl : r = true := by rw [← HR.out]; unfold suitB; rw [HFB.out]; simp [fitI, HPP.out, hi, HRN.out, List.getD_eq_getElem?_getD, HXR.out]; omega
       have hi1 : (imm == P) = true := by simpa using hi
       have HII := Lib.hid hi
       clear hi
       refine wp_region_ext (by kernel_rfl) (by kernel_rfl) ?_
       repeat (go_big_quiet_step (first | (go_at_call 40; exact ext_below (fits_is HFI.out _))))
       refine wpQuiet_nil ?_
       rintro _ ⟨⟨w3, hb3⟩, rfl⟩
       go_wp2_with fail
       go_ret
       exact ⟨rfl, below_then HB2.out hb3⟩
      ·obtain rfl : r = false := by rw [← HR.out]; unfold suitB; rw [HFB.out]; simp [fitI, HFI.out, HPP.out, hi]
       have hi1 : (imm == P) = false := by simpa using hi
       clear hi
       refine wp_region_ext (by kernel_rfl) (by kernel_rfl) ?_
       repeat (go_big_quiet_step (first | (go_at_call 40; exact ext_below (fits_is HFI.out _))))
       refine wpQuiet_nil ?_
       rintro _ ⟨⟨w3, hb3⟩, rfl⟩
       go_wp2_with fail
       go_ret
       exact ⟨rfl, below_then HB2.out hb3⟩
    ·obtain rfl : r = false := by rw [← HR.out]; unfold suitB; rw [HFB.out]; simp [fitI, HRN.out, List.getD_eq_getElem?_getD, HXR.out]; omega
     have hkb1 : xl ≤ (kb : Int) := by omega
     have hkb2 : decide (xl ≤ (kb : Int)) = true := decide_eq_true hkb1
     go_enter Tryd.func101, Tryd.ntmps101
     go_upto_region 1 with fail
     obtain ⟨bp, bi, hb0⟩ := entryPI w [.int .i64 d0, .int .i64 d1, .int .i64 d2, .int .i64 d3, .int .i64 c0, .int .i64 c1, .int .i64 c2, .int .i64 c3, .slice (some ad) rn rc, .slice CA cn cc] ⟨4, ka, kb, imm⟩ _ rfl
     change Code.wp _ _ _ _ ((w.alloc (.cells [.int .i64 d0, .int .i64 d1, .int .i64 d2, .int .i64 d3, .int .i64 c0, .int .i64 c1, .int .i64 c2, .int .i64 c3, .slice (some ad) rn rc, .slice CA cn cc].toArray 41)).alloc (.cells (Ins.cells ⟨4, ka, kb, imm⟩).toArray 109))
     generalize ((w.alloc (.cells [.int .i64 d0, .int .i64 d1, .int .i64 d2, .int .i64 d3, .int .i64 c0, .int .i64 c1, .int .i64 c2, .int .i64 c3, .slice (some ad) rn rc, .slice CA cn cc].toArray 41)).alloc (.cells (Ins.cells ⟨4, ka, kb, imm⟩).toArray 109)) = W0 at bp bi hb0 ⊢
     have HB0 := Lib.hid hb0
     have HBP := Lib.hid bp
     obtain ⟨z0, z1, z2, z3⟩ := bi.c4
     have HBI := Lib.hid bi
     clear hb0 bp bi
     generalize hgp : w.heap.size = gp at HBP HBI z0 z1 z2 z3 ⊢
     have HGP := Lib.hid hgp
     clear hgp
     go_upto_region 3 with (go_at_call 110; (with_reducible refine (CF.out _ HB0.out).mono ?_); rintro e1 w1 ⟨rfl, hb1⟩)
     have bp1 := HBP.out.keep hb1
     have bi1 := HBI.out.keep hb1
     obtain ⟨⟨x0, x1, x2, x3⟩, ⟨x4, x5, x6, x7⟩, x8, x9⟩ := bp1.c10
     obtain ⟨y0, y1, y2, y3⟩ := bi1.c4
     have HB1 := Lib.hid (below_then HB0.out hb1)
     have HBP1 := Lib.hid bp1
     have HBI1 := Lib.hid bi1
     clear z0 z1 z2 z3 hb1 HBP HBI CF bp1 bi1
     go_upto_region 5 with fail
     have e1 := HBP1.out.ext (k := 8) (v := .slice (some ad) rn rc) rfl
     have e2 := HBI1.out.ext (k := 1) (v := .int .i64 (ka : Int)) rfl
     have e3 := HBI1.out.ext (k := 2) (v := .int .i64 (kb : Int)) rfl
     have EX := Lib.hid (fun n : Ext w1 => (n.below.cell (p := ⟨(ad.add (ka * 2)).block, (ad.add (ka * 2)).off + 1, none⟩) (by rw [block_add]; exact Nat.lt_of_lt_of_le HAD.out HB1.out.size)).trans ((HB1.out.cell (p := ⟨(ad.add (ka * 2)).block, (ad.add (ka * 2)).off + 1, none⟩) (by rw [block_add]; exact HAD.out)).trans HXC.out))
     have e4 := EX.out
     refine wp_region_ext (by kernel_rfl) (by kernel_rfl) ?_
     repeat (go_big_quiet_step (fail))
     refine wpQuiet_nil ?_
     rintro w2 ⟨⟨_, hb2⟩, rfl⟩
     have HB2 := Lib.hid (below_then HB1.out hb2)
     have HBP2 := Lib.hid (HBP1.out.keep hb2)
     have HBI2 := Lib.hid (HBI1.out.keep hb2)
     obtain ⟨⟨x0, x1, x2, x3⟩, ⟨x4, x5, x6, x7⟩, x8, x9⟩ := HBP2.out.c10
     obtain ⟨y0, y1, y2, y3⟩ := HBI2.out.c4
     clear hb2 HB1 HBP1 HBI1 e1 e2 e3
     go_wp2_with fail
     go_ret
     exact ⟨rfl, HB2.out⟩
   ·obtain rfl : r = false := by rw [← HR.out]; unfold suitB; rw [HFB.out]; simp [fitI, HRN.out, hk]
    have hk1 : (rn : Int) ≤ (ka : Int) := by omega
    have hk2 : decide ((rn : Int) ≤ (ka : Int)) = true := decide_eq_true hk1
    have hk2n : decide (rn ≤ ka) = true := decide_eq_true (by omega)
    have hk1n : rn ≤ ka := by omega
    go_enter Tryd.func101, Tryd.ntmps101
    go_upto_region 1 with fail
    obtain ⟨bp, bi, hb0⟩ := entryPI w [.int .i64 d0, .int .i64 d1, .int .i64 d2, .int .i64 d3, .int .i64 c0, .int .i64 c1, .int .i64 c2, .int .i64 c3, .slice RA rn rc, .slice CA cn cc] ⟨4, ka, kb, imm⟩ _ rfl
    change Code.wp _ _ _ _ ((w.alloc (.cells [.int .i64 d0, .int .i64 d1, .int .i64 d2, .int .i64 d3, .int .i64 c0, .int .i64 c1, .int .i64 c2, .int .i64 c3, .slice RA rn rc, .slice CA cn cc].toArray 41)).alloc (.cells (Ins.cells ⟨4, ka, kb, imm⟩).toArray 109))
    generalize ((w.alloc (.cells [.int .i64 d0, .int .i64 d1, .int .i64 d2, .int .i64 d3, .int .i64 c0, .int .i64 c1, .int .i64 c2, .int .i64 c3, .slice RA rn rc, .slice CA cn cc].toArray 41)).alloc (.cells (Ins.cells ⟨4, ka, kb, imm⟩).toArray 109)) = W0 at bp bi hb0 ⊢
    have HB0 := Lib.hid hb0
    have HBP := Lib.hid bp
    obtain ⟨z0, z1, z2, z3⟩ := bi.c4
    have HBI := Lib.hid bi
    clear hb0 bp bi
    generalize hgp : w.heap.size = gp at HBP HBI z0 z1 z2 z3 ⊢
    have HGP := Lib.hid hgp
    clear hgp
    go_upto_region 3 with (go_at_call 110; (with_reducible refine (CF.out _ HB0.out).mono ?_); rintro e1 w1 ⟨rfl, hb1⟩)
    have bp1 := HBP.out.keep hb1
    have bi1 := HBI.out.keep hb1
    obtain ⟨⟨x0, x1, x2, x3⟩, ⟨x4, x5, x6, x7⟩, x8, x9⟩ := bp1.c10
    obtain ⟨y0, y1, y2, y3⟩ := bi1.c4
    have HB1 := Lib.hid (below_then HB0.out hb1)
    have HBP1 := Lib.hid bp1
    have HBI1 := Lib.hid bi1
    clear z0 z1 z2 z3 hb1 HBP HBI CF bp1 bi1
    go_upto_region 5 with fail
    have e1 := HBP1.out.ext (k := 8) (v := .slice RA rn rc) rfl
    have e2 := HBI1.out.ext (k := 1) (v := .int .i64 (ka : Int)) rfl
    have e3 := HBI1.out.ext (k := 2) (v := .int .i64 (kb : Int)) rfl
    refine wp_region_ext (by kernel_rfl) (by kernel_rfl) ?_
    repeat (go_big_quiet_step (fail))
    refine wpQuiet_nil ?_
    rintro w2 ⟨⟨_, hb2⟩, rfl⟩
    have HB2 := Lib.hid (below_then HB1.out hb2)
    have HBP2 := Lib.hid (HBP1.out.keep hb2)
    have HBI2 := Lib.hid (HBI1.out.keep hb2)
    obtain ⟨⟨x0, x1, x2, x3⟩, ⟨x4, x5, x6, x7⟩, x8, x9⟩ := HBP2.out.c10
    obtain ⟨y0, y1, y2, y3⟩ := HBI2.out.c4
    clear hb2 HB1 HBP1 HBI1 e1 e2 e3
    go_wp2_with fail
    go_ret
    exact ⟨rfl, HB2.out⟩
  ·obtain rfl : r = true := by rw [← HR.out]; unfold suitB; rw [HFB.out]; simp [fitI]
   go_enter Tryd.func101, Tryd.ntmps101
   go_upto_region 1 with fail
   obtain ⟨bp, bi, hb0⟩ := entryPI w [.int .i64 d0, .int .i64 d1, .int .i64 d2, .int .i64 d3, .int .i64 c0, .int .i64 c1, .int .i64 c2, .int .i64 c3, .slice RA rn rc, .slice CA cn cc] ⟨5, a, b, imm⟩ _ rfl
   change Code.wp _ _ _ _ ((w.alloc (.cells [.int .i64 d0, .int .i64 d1, .int .i64 d2, .int .i64 d3, .int .i64 c0, .int .i64 c1, .int .i64 c2, .int .i64 c3, .slice RA rn rc, .slice CA cn cc].toArray 41)).alloc (.cells (Ins.cells ⟨5, a, b, imm⟩).toArray 109))
   generalize ((w.alloc (.cells [.int .i64 d0, .int .i64 d1, .int .i64 d2, .int .i64 d3, .int .i64 c0, .int .i64 c1, .int .i64 c2, .int .i64 c3, .slice RA rn rc, .slice CA cn cc].toArray 41)).alloc (.cells (Ins.cells ⟨5, a, b, imm⟩).toArray 109)) = W0 at bp bi hb0 ⊢
   have HB0 := Lib.hid hb0
   have HBP := Lib.hid bp
   obtain ⟨z0, z1, z2, z3⟩ := bi.c4
   have HBI := Lib.hid bi
   clear hb0 bp bi
   generalize hgp : w.heap.size = gp at HBP HBI z0 z1 z2 z3 ⊢
   have HGP := Lib.hid hgp
   clear hgp
   go_upto_region 3 with (go_at_call 110; (with_reducible refine (CF.out _ HB0.out).mono ?_); rintro e1 w1 ⟨rfl, hb1⟩)
   have bp1 := HBP.out.keep hb1
   have bi1 := HBI.out.keep hb1
   obtain ⟨⟨x0, x1, x2, x3⟩, ⟨x4, x5, x6, x7⟩, x8, x9⟩ := bp1.c10
   obtain ⟨y0, y1, y2, y3⟩ := bi1.c4
   have HB1 := Lib.hid (below_then HB0.out hb1)
   have HBP1 := Lib.hid bp1
   have HBI1 := Lib.hid bi1
   clear z0 z1 z2 z3 hb1 HBP HBI CF bp1 bi1
   have q : w1.cell? ⟨0, 23, none⟩ = some (.int .i64 0) := ((HF.out.grow HB1.out).cells 5 (by decide)).2.2
   go_wp2_with fail
   go_ret
   exact ⟨rfl, HB1.out⟩
  ·obtain ⟨-, ha, hb, -⟩ := formed_parts HFB.out
   simp only at ha hb
   obtain ⟨kb, rfl⟩ := Int.eq_ofNat_of_zero_le hb.1
   have hk0 : (0 : Int) ≤ (kb : Int) := by omega
   have hk1 : (kb : Int) < 128 := by omega
   have hk2 : kb < 128 := by omega
   have HUM := Lib.hid (HU.out kb hk2)
   obtain ⟨ub, hub⟩ : ∃ c, usdB rg (kb : Int) = c := ⟨_, rfl⟩
   rw [hub] at HUM
   have HUB := Lib.hid hub
   clear hub
   cases ub with
   | true =>
    obtain rfl : r = false := by rw [← HR.out]; unfold suitB; rw [HFB.out]; simp [fitI, HUB.out]
    go_enter Tryd.func101, Tryd.ntmps101
    go_upto_region 1 with fail
    obtain ⟨bp, bi, hb0⟩ := entryPI w [.int .i64 d0, .int .i64 d1, .int .i64 d2, .int .i64 d3, .int .i64 c0, .int .i64 c1, .int .i64 c2, .int .i64 c3, .slice RA rn rc, .slice CA cn cc] ⟨6, a, kb, imm⟩ _ rfl
    change Code.wp _ _ _ _ ((w.alloc (.cells [.int .i64 d0, .int .i64 d1, .int .i64 d2, .int .i64 d3, .int .i64 c0, .int .i64 c1, .int .i64 c2, .int .i64 c3, .slice RA rn rc, .slice CA cn cc].toArray 41)).alloc (.cells (Ins.cells ⟨6, a, kb, imm⟩).toArray 109))
    generalize ((w.alloc (.cells [.int .i64 d0, .int .i64 d1, .int .i64 d2, .int .i64 d3, .int .i64 c0, .int .i64 c1, .int .i64 c2, .int .i64 c3, .slice RA rn rc, .slice CA cn cc].toArray 41)).alloc (.cells (Ins.cells ⟨6, a, kb, imm⟩).toArray 109)) = W0 at bp bi hb0 ⊢
    have HB0 := Lib.hid hb0
    have HBP := Lib.hid bp
    obtain ⟨z0, z1, z2, z3⟩ := bi.c4
    have HBI := Lib.hid bi
    clear hb0 bp bi
    generalize hgp : w.heap.size = gp at HBP HBI z0 z1 z2 z3 ⊢
    have HGP := Lib.hid hgp
    clear hgp
    go_upto_region 3 with (go_at_call 110; (with_reducible refine (CF.out _ HB0.out).mono ?_); rintro e1 w1 ⟨rfl, hb1⟩)
    have bp1 := HBP.out.keep hb1
    have bi1 := HBI.out.keep hb1
    obtain ⟨⟨x0, x1, x2, x3⟩, ⟨x4, x5, x6, x7⟩, x8, x9⟩ := bp1.c10
    obtain ⟨y0, y1, y2, y3⟩ := bi1.c4
    have HB1 := Lib.hid (below_then HB0.out hb1)
    have HBP1 := Lib.hid bp1
    have HBI1 := Lib.hid bi1
    clear z0 z1 z2 z3 hb1 HBP HBI CF bp1 bi1
    have q9 : w1.cell? ⟨g, kb, none⟩ = some (.bool true) := (HB1.out.cell (p := ⟨g, kb, none⟩) HG.out).trans HUM.out
    go_wp2_with fail
    go_ret
    exact ⟨rfl, HB1.out⟩
   | false =>
    obtain rfl : r = true := by rw [← HR.out]; unfold suitB; rw [HFB.out]; simp [fitI, HUB.out]
    go_enter Tryd.func101, Tryd.ntmps101
    go_upto_region 1 with fail
    obtain ⟨bp, bi, hb0⟩ := entryPI w [.int .i64 d0, .int .i64 d1, .int .i64 d2, .int .i64 d3, .int .i64 c0, .int .i64 c1, .int .i64 c2, .int .i64 c3, .slice RA rn rc, .slice CA cn cc] ⟨6, a, kb, imm⟩ _ rfl
    change Code.wp _ _ _ _ ((w.alloc (.cells [.int .i64 d0, .int .i64 d1, .int .i64 d2, .int .i64 d3, .int .i64 c0, .int .i64 c1, .int .i64 c2, .int .i64 c3, .slice RA rn rc, .slice CA cn cc].toArray 41)).alloc (.cells (Ins.cells ⟨6, a, kb, imm⟩).toArray 109))
    generalize ((w.alloc (.cells [.int .i64 d0, .int .i64 d1, .int .i64 d2, .int .i64 d3, .int .i64 c0, .int .i64 c1, .int .i64 c2, .int .i64 c3, .slice RA rn rc, .slice CA cn cc].toArray 41)).alloc (.cells (Ins.cells ⟨6, a, kb, imm⟩).toArray 109)) = W0 at bp bi hb0 ⊢
    have HB0 := Lib.hid hb0
    have HBP := Lib.hid bp
    obtain ⟨z0, z1, z2, z3⟩ := bi.c4
    have HBI := Lib.hid bi
    clear hb0 bp bi
    generalize hgp : w.heap.size = gp at HBP HBI z0 z1 z2 z3 ⊢
    have HGP := Lib.hid hgp
    clear hgp
    go_upto_region 3 with (go_at_call 110; (with_reducible refine (CF.out _ HB0.out).mono ?_); rintro e1 w1 ⟨rfl, hb1⟩)
    have bp1 := HBP.out.keep hb1
    have bi1 := HBI.out.keep hb1
    obtain ⟨⟨x0, x1, x2, x3⟩, ⟨x4, x5, x6, x7⟩, x8, x9⟩ := bp1.c10
    obtain ⟨y0, y1, y2, y3⟩ := bi1.c4
    have HB1 := Lib.hid (below_then HB0.out hb1)
    have HBP1 := Lib.hid bp1
    have HBI1 := Lib.hid bi1
    clear z0 z1 z2 z3 hb1 HBP HBI CF bp1 bi1
    have q9 : w1.cell? ⟨g, kb, none⟩ = some (.bool false) := (HB1.out.cell (p := ⟨g, kb, none⟩) HG.out).trans HUM.out
    have q : w1.cell? ⟨0, 27, none⟩ = some (.int .i64 0) := ((HF.out.grow HB1.out).cells 6 (by decide)).2.2
    go_wp2_with fail
    go_ret
    exact ⟨rfl, HB1.out⟩
  ·obtain ⟨-, ha, hb, -⟩ := formed_parts HFB.out
   simp only at ha hb
   obtain ⟨kb, rfl⟩ := Int.eq_ofNat_of_zero_le hb.1
   have hk0 : (0 : Int) ≤ (kb : Int) := by omega
   have hk1 : (kb : Int) < 128 := by omega
   have hk2 : kb < 128 := by omega
   have HUM := Lib.hid (HU.out kb hk2)
   obtain ⟨ub, hub⟩ : ∃ c, usdB rg (kb : Int) = c := ⟨_, rfl⟩
   rw [hub] at HUM
   have HUB := Lib.hid hub
   clear hub
   cases ub with
   | true =>
    obtain rfl : r = false := by rw [← HR.out]; unfold suitB; rw [HFB.out]; simp [fitI, HUB.out]
    go_enter Tryd.func101, Tryd.ntmps101
    go_upto_region 1 with fail
    obtain ⟨bp, bi, hb0⟩ := entryPI w [.int .i64 d0, .int .i64 d1, .int .i64 d2, .int .i64 d3, .int .i64 c0, .int .i64 c1, .int .i64 c2, .int .i64 c3, .slice RA rn rc, .slice CA cn cc] ⟨7, a, kb, imm⟩ _ rfl
    change Code.wp _ _ _ _ ((w.alloc (.cells [.int .i64 d0, .int .i64 d1, .int .i64 d2, .int .i64 d3, .int .i64 c0, .int .i64 c1, .int .i64 c2, .int .i64 c3, .slice RA rn rc, .slice CA cn cc].toArray 41)).alloc (.cells (Ins.cells ⟨7, a, kb, imm⟩).toArray 109))
    generalize ((w.alloc (.cells [.int .i64 d0, .int .i64 d1, .int .i64 d2, .int .i64 d3, .int .i64 c0, .int .i64 c1, .int .i64 c2, .int .i64 c3, .slice RA rn rc, .slice CA cn cc].toArray 41)).alloc (.cells (Ins.cells ⟨7, a, kb, imm⟩).toArray 109)) = W0 at bp bi hb0 ⊢
    have HB0 := Lib.hid hb0
    have HBP := Lib.hid bp
    obtain ⟨z0, z1, z2, z3⟩ := bi.c4
    have HBI := Lib.hid bi
    clear hb0 bp bi
    generalize hgp : w.heap.size = gp at HBP HBI z0 z1 z2 z3 ⊢
    have HGP := Lib.hid hgp
    clear hgp
    go_upto_region 3 with (go_at_call 110; (with_reducible refine (CF.out _ HB0.out).mono ?_); rintro e1 w1 ⟨rfl, hb1⟩)
    have bp1 := HBP.out.keep hb1
    have bi1 := HBI.out.keep hb1
    obtain ⟨⟨x0, x1, x2, x3⟩, ⟨x4, x5, x6, x7⟩, x8, x9⟩ := bp1.c10
    obtain ⟨y0, y1, y2, y3⟩ := bi1.c4
    have HB1 := Lib.hid (below_then HB0.out hb1)
    have HBP1 := Lib.hid bp1
    have HBI1 := Lib.hid bi1
    clear z0 z1 z2 z3 hb1 HBP HBI CF bp1 bi1
    have q9 : w1.cell? ⟨g, kb, none⟩ = some (.bool true) := (HB1.out.cell (p := ⟨g, kb, none⟩) HG.out).trans HUM.out
    go_wp2_with fail
    go_ret
    exact ⟨rfl, HB1.out⟩
   | false =>
    obtain rfl : r = true := by rw [← HR.out]; unfold suitB; rw [HFB.out]; simp [fitI, HUB.out]
    go_enter Tryd.func101, Tryd.ntmps101
    go_upto_region 1 with fail
    obtain ⟨bp, bi, hb0⟩ := entryPI w [.int .i64 d0, .int .i64 d1, .int .i64 d2, .int .i64 d3, .int .i64 c0, .int .i64 c1, .int .i64 c2, .int .i64 c3, .slice RA rn rc, .slice CA cn cc] ⟨7, a, kb, imm⟩ _ rfl
    change Code.wp _ _ _ _ ((w.alloc (.cells [.int .i64 d0, .int .i64 d1, .int .i64 d2, .int .i64 d3, .int .i64 c0, .int .i64 c1, .int .i64 c2, .int .i64 c3, .slice RA rn rc, .slice CA cn cc].toArray 41)).alloc (.cells (Ins.cells ⟨7, a, kb, imm⟩).toArray 109))
    generalize ((w.alloc (.cells [.int .i64 d0, .int .i64 d1, .int .i64 d2, .int .i64 d3, .int .i64 c0, .int .i64 c1, .int .i64 c2, .int .i64 c3, .slice RA rn rc, .slice CA cn cc].toArray 41)).alloc (.cells (Ins.cells ⟨7, a, kb, imm⟩).toArray 109)) = W0 at bp bi hb0 ⊢
    have HB0 := Lib.hid hb0
    have HBP := Lib.hid bp
    obtain ⟨z0, z1, z2, z3⟩ := bi.c4
    have HBI := Lib.hid bi
    clear hb0 bp bi
    generalize hgp : w.heap.size = gp at HBP HBI z0 z1 z2 z3 ⊢
    have HGP := Lib.hid hgp
    clear hgp
    go_upto_region 3 with (go_at_call 110; (with_reducible refine (CF.out _ HB0.out).mono ?_); rintro e1 w1 ⟨rfl, hb1⟩)
    have bp1 := HBP.out.keep hb1
    have bi1 := HBI.out.keep hb1
    obtain ⟨⟨x0, x1, x2, x3⟩, ⟨x4, x5, x6, x7⟩, x8, x9⟩ := bp1.c10
    obtain ⟨y0, y1, y2, y3⟩ := bi1.c4
    have HB1 := Lib.hid (below_then HB0.out hb1)
    have HBP1 := Lib.hid bp1
    have HBI1 := Lib.hid bi1
    clear z0 z1 z2 z3 hb1 HBP HBI CF bp1 bi1
    have q9 : w1.cell? ⟨g, kb, none⟩ = some (.bool false) := (HB1.out.cell (p := ⟨g, kb, none⟩) HG.out).trans HUM.out
    have q : w1.cell? ⟨0, 31, none⟩ = some (.int .i64 0) := ((HF.out.grow HB1.out).cells 7 (by decide)).2.2
    go_wp2_with fail
    go_ret
    exact ⟨rfl, HB1.out⟩
  ·obtain ⟨-, ha, -⟩ := formed_parts HFB.out
   simp only at ha
   obtain ⟨ka, rfl⟩ := Int.eq_ofNat_of_zero_le ha.1
   by_cases hk : ka < rn
   ·obtain rfl : r = true := by rw [← HR.out]; unfold suitB; rw [HFB.out]; simp [fitI, HRN.out]; omega
    have hk1 : ¬ (rn : Int) ≤ (ka : Int) := by omega
    go_enter Tryd.func101, Tryd.ntmps101
    go_upto_region 1 with fail
    obtain ⟨bp, bi, hb0⟩ := entryPI w [.int .i64 d0, .int .i64 d1, .int .i64 d2, .int .i64 d3, .int .i64 c0, .int .i64 c1, .int .i64 c2, .int .i64 c3, .slice RA rn rc, .slice CA cn cc] ⟨8, ka, b, imm⟩ _ rfl
    change Code.wp _ _ _ _ ((w.alloc (.cells [.int .i64 d0, .int .i64 d1, .int .i64 d2, .int .i64 d3, .int .i64 c0, .int .i64 c1, .int .i64 c2, .int .i64 c3, .slice RA rn rc, .slice CA cn cc].toArray 41)).alloc (.cells (Ins.cells ⟨8, ka, b, imm⟩).toArray 109))
    generalize ((w.alloc (.cells [.int .i64 d0, .int .i64 d1, .int .i64 d2, .int .i64 d3, .int .i64 c0, .int .i64 c1, .int .i64 c2, .int .i64 c3, .slice RA rn rc, .slice CA cn cc].toArray 41)).alloc (.cells (Ins.cells ⟨8, ka, b, imm⟩).toArray 109)) = W0 at bp bi hb0 ⊢
    have HB0 := Lib.hid hb0
    have HBP := Lib.hid bp
    obtain ⟨z0, z1, z2, z3⟩ := bi.c4
    have HBI := Lib.hid bi
    clear hb0 bp bi
    generalize hgp : w.heap.size = gp at HBP HBI z0 z1 z2 z3 ⊢
    have HGP := Lib.hid hgp
    clear hgp
    go_upto_region 3 with (go_at_call 110; (with_reducible refine (CF.out _ HB0.out).mono ?_); rintro e1 w1 ⟨rfl, hb1⟩)
    have bp1 := HBP.out.keep hb1
    have bi1 := HBI.out.keep hb1
    obtain ⟨⟨x0, x1, x2, x3⟩, ⟨x4, x5, x6, x7⟩, x8, x9⟩ := bp1.c10
    obtain ⟨y0, y1, y2, y3⟩ := bi1.c4
    have HB1 := Lib.hid (below_then HB0.out hb1)
    have HBP1 := Lib.hid bp1
    have HBI1 := Lib.hid bi1
    clear z0 z1 z2 z3 hb1 HBP HBI CF bp1 bi1
    have q : w1.cell? ⟨0, 35, none⟩ = some (.int .i64 0) := ((HF.out.grow HB1.out).cells 8 (by decide)).2.2
    go_wp2_with fail
    go_ret
    exact ⟨rfl, HB1.out⟩
   ·obtain rfl : r = false := by rw [← HR.out]; unfold suitB; rw [HFB.out]; simp [fitI, HRN.out]; omega
    have hk1 : (rn : Int) ≤ (ka : Int) := by omega
    go_enter Tryd.func101, Tryd.ntmps101
    go_upto_region 1 with fail
    obtain ⟨bp, bi, hb0⟩ := entryPI w [.int .i64 d0, .int .i64 d1, .int .i64 d2, .int .i64 d3, .int .i64 c0, .int .i64 c1, .int .i64 c2, .int .i64 c3, .slice RA rn rc, .slice CA cn cc] ⟨8, ka, b, imm⟩ _ rfl
    change Code.wp _ _ _ _ ((w.alloc (.cells [.int .i64 d0, .int .i64 d1, .int .i64 d2, .int .i64 d3, .int .i64 c0, .int .i64 c1, .int .i64 c2, .int .i64 c3, .slice RA rn rc, .slice CA cn cc].toArray 41)).alloc (.cells (Ins.cells ⟨8, ka, b, imm⟩).toArray 109))
    generalize ((w.alloc (.cells [.int .i64 d0, .int .i64 d1, .int .i64 d2, .int .i64 d3, .int .i64 c0, .int .i64 c1, .int .i64 c2, .int .i64 c3, .slice RA rn rc, .slice CA cn cc].toArray 41)).alloc (.cells (Ins.cells ⟨8, ka, b, imm⟩).toArray 109)) = W0 at bp bi hb0 ⊢
    have HB0 := Lib.hid hb0
    have HBP := Lib.hid bp
    obtain ⟨z0, z1, z2, z3⟩ := bi.c4
    have HBI := Lib.hid bi
    clear hb0 bp bi
    generalize hgp : w.heap.size = gp at HBP HBI z0 z1 z2 z3 ⊢
    have HGP := Lib.hid hgp
    clear hgp
    go_upto_region 3 with (go_at_call 110; (with_reducible refine (CF.out _ HB0.out).mono ?_); rintro e1 w1 ⟨rfl, hb1⟩)
    have bp1 := HBP.out.keep hb1
    have bi1 := HBI.out.keep hb1
    obtain ⟨⟨x0, x1, x2, x3⟩, ⟨x4, x5, x6, x7⟩, x8, x9⟩ := bp1.c10
    obtain ⟨y0, y1, y2, y3⟩ := bi1.c4
    have HB1 := Lib.hid (below_then HB0.out hb1)
    have HBP1 := Lib.hid bp1
    have HBI1 := Lib.hid bi1
    clear z0 z1 z2 z3 hb1 HBP HBI CF bp1 bi1
    go_wp2_with fail
    go_ret
    exact ⟨rfl, HB1.out⟩
  ·obtain rfl : r = true := by rw [← HR.out]; unfold suitB; rw [HFB.out]; simp [fitI]
   go_enter Tryd.func101, Tryd.ntmps101
   go_upto_region 1 with fail
   obtain ⟨bp, bi, hb0⟩ := entryPI w [.int .i64 d0, .int .i64 d1, .int .i64 d2, .int .i64 d3, .int .i64 c0, .int .i64 c1, .int .i64 c2, .int .i64 c3, .slice RA rn rc, .slice CA cn cc] ⟨9, a, b, imm⟩ _ rfl
   change Code.wp _ _ _ _ ((w.alloc (.cells [.int .i64 d0, .int .i64 d1, .int .i64 d2, .int .i64 d3, .int .i64 c0, .int .i64 c1, .int .i64 c2, .int .i64 c3, .slice RA rn rc, .slice CA cn cc].toArray 41)).alloc (.cells (Ins.cells ⟨9, a, b, imm⟩).toArray 109))
   generalize ((w.alloc (.cells [.int .i64 d0, .int .i64 d1, .int .i64 d2, .int .i64 d3, .int .i64 c0, .int .i64 c1, .int .i64 c2, .int .i64 c3, .slice RA rn rc, .slice CA cn cc].toArray 41)).alloc (.cells (Ins.cells ⟨9, a, b, imm⟩).toArray 109)) = W0 at bp bi hb0 ⊢
   have HB0 := Lib.hid hb0
   have HBP := Lib.hid bp
   obtain ⟨z0, z1, z2, z3⟩ := bi.c4
   have HBI := Lib.hid bi
   clear hb0 bp bi
   generalize hgp : w.heap.size = gp at HBP HBI z0 z1 z2 z3 ⊢
   have HGP := Lib.hid hgp
   clear hgp
   go_upto_region 3 with (go_at_call 110; (with_reducible refine (CF.out _ HB0.out).mono ?_); rintro e1 w1 ⟨rfl, hb1⟩)
   have bp1 := HBP.out.keep hb1
   have bi1 := HBI.out.keep hb1
   obtain ⟨⟨x0, x1, x2, x3⟩, ⟨x4, x5, x6, x7⟩, x8, x9⟩ := bp1.c10
   obtain ⟨y0, y1, y2, y3⟩ := bi1.c4
   have HB1 := Lib.hid (below_then HB0.out hb1)
   have HBP1 := Lib.hid bp1
   have HBI1 := Lib.hid bi1
   clear z0 z1 z2 z3 hb1 HBP HBI CF bp1 bi1
   have q : w1.cell? ⟨0, 39, none⟩ = some (.int .i64 0) := ((HF.out.grow HB1.out).cells 9 (by decide)).2.2
   go_wp2_with fail
   go_ret
   exact ⟨rfl, HB1.out⟩
  ·obtain rfl : r = true := by rw [← HR.out]; unfold suitB; rw [HFB.out]; simp [fitI]
   go_enter Tryd.func101, Tryd.ntmps101
   go_upto_region 1 with fail
   obtain ⟨bp, bi, hb0⟩ := entryPI w [.int .i64 d0, .int .i64 d1, .int .i64 d2, .int .i64 d3, .int .i64 c0, .int .i64 c1, .int .i64 c2, .int .i64 c3, .slice RA rn rc, .slice CA cn cc] ⟨10, a, b, imm⟩ _ rfl
   change Code.wp _ _ _ _ ((w.alloc (.cells [.int .i64 d0, .int .i64 d1, .int .i64 d2, .int .i64 d3, .int .i64 c0, .int .i64 c1, .int .i64 c2, .int .i64 c3, .slice RA rn rc, .slice CA cn cc].toArray 41)).alloc (.cells (Ins.cells ⟨10, a, b, imm⟩).toArray 109))
   generalize ((w.alloc (.cells [.int .i64 d0, .int .i64 d1, .int .i64 d2, .int .i64 d3, .int .i64 c0, .int .i64 c1, .int .i64 c2, .int .i64 c3, .slice RA rn rc, .slice CA cn cc].toArray 41)).alloc (.cells (Ins.cells ⟨10, a, b, imm⟩).toArray 109)) = W0 at bp bi hb0 ⊢
   have HB0 := Lib.hid hb0
   have HBP := Lib.hid bp
   obtain ⟨z0, z1, z2, z3⟩ := bi.c4
   have HBI := Lib.hid bi
   clear hb0 bp bi
   generalize hgp : w.heap.size = gp at HBP HBI z0 z1 z2 z3 ⊢
   have HGP := Lib.hid hgp
   clear hgp
   go_upto_region 3 with (go_at_call 110; (with_reducible refine (CF.out _ HB0.out).mono ?_); rintro e1 w1 ⟨rfl, hb1⟩)
   have bp1 := HBP.out.keep hb1
   have bi1 := HBI.out.keep hb1
   obtain ⟨⟨x0, x1, x2, x3⟩, ⟨x4, x5, x6, x7⟩, x8, x9⟩ := bp1.c10
   obtain ⟨y0, y1, y2, y3⟩ := bi1.c4
   have HB1 := Lib.hid (below_then HB0.out hb1)
   have HBP1 := Lib.hid bp1
   have HBI1 := Lib.hid bi1
   clear z0 z1 z2 z3 hb1 HBP HBI CF bp1 bi1
   have q : w1.cell? ⟨0, 43, none⟩ = some (.int .i64 0) := ((HF.out.grow HB1.out).cells 10 (by decide)).2.2
   go_wp2_with fail
   go_ret
   exact ⟨rfl, HB1.out⟩
  ·obtain rfl : r = true := by rw [← HR.out]; unfold suitB; rw [HFB.out]; simp [fitI]
   go_enter Tryd.func101, Tryd.ntmps101
   go_upto_region 1 with fail
   obtain ⟨bp, bi, hb0⟩ := entryPI w [.int .i64 d0, .int .i64 d1, .int .i64 d2, .int .i64 d3, .int .i64 c0, .int .i64 c1, .int .i64 c2, .int .i64 c3, .slice RA rn rc, .slice CA cn cc] ⟨11, a, b, imm⟩ _ rfl
   change Code.wp _ _ _ _ ((w.alloc (.cells [.int .i64 d0, .int .i64 d1, .int .i64 d2, .int .i64 d3, .int .i64 c0, .int .i64 c1, .int .i64 c2, .int .i64 c3, .slice RA rn rc, .slice CA cn cc].toArray 41)).alloc (.cells (Ins.cells ⟨11, a, b, imm⟩).toArray 109))
   generalize ((w.alloc (.cells [.int .i64 d0, .int .i64 d1, .int .i64 d2, .int .i64 d3, .int .i64 c0, .int .i64 c1, .int .i64 c2, .int .i64 c3, .slice RA rn rc, .slice CA cn cc].toArray 41)).alloc (.cells (Ins.cells ⟨11, a, b, imm⟩).toArray 109)) = W0 at bp bi hb0 ⊢
   have HB0 := Lib.hid hb0
   have HBP := Lib.hid bp
   obtain ⟨z0, z1, z2, z3⟩ := bi.c4
   have HBI := Lib.hid bi
   clear hb0 bp bi
   generalize hgp : w.heap.size = gp at HBP HBI z0 z1 z2 z3 ⊢
   have HGP := Lib.hid hgp
   clear hgp
   go_upto_region 3 with (go_at_call 110; (with_reducible refine (CF.out _ HB0.out).mono ?_); rintro e1 w1 ⟨rfl, hb1⟩)
   have bp1 := HBP.out.keep hb1
   have bi1 := HBI.out.keep hb1
   obtain ⟨⟨x0, x1, x2, x3⟩, ⟨x4, x5, x6, x7⟩, x8, x9⟩ := bp1.c10
   obtain ⟨y0, y1, y2, y3⟩ := bi1.c4
   have HB1 := Lib.hid (below_then HB0.out hb1)
   have HBP1 := Lib.hid bp1
   have HBI1 := Lib.hid bi1
   clear z0 z1 z2 z3 hb1 HBP HBI CF bp1 bi1
   have q : w1.cell? ⟨0, 47, none⟩ = some (.int .i64 0) := ((HF.out.grow HB1.out).cells 11 (by decide)).2.2
   go_wp2_with fail
   go_ret
   exact ⟨rfl, HB1.out⟩
end Go.Proofs.YtdiflpbioohddaaDoor
