/- Several texts in one: S4 S5 S6 S7. -/
import Derived.Test.YtpmbgcfnehplaaaDoorS1
import Derived.Test.YtpmbgcfnehplaaaDoorE5
import Derived.Test.YtpmbgcfnehplaaaDoorE11
import Derived.Test.YtpmbgcfnehplaaaDoorE6
section
/- suits of package processor. Printed by gen_s4.py. -/
set_option linter.unusedVariables false
set_option linter.unusedSimpArgs false

namespace Go.Proofs.YtpmbgcfnehplaaaDoor
open Go.RowKit

theorem fits_is {b f r o v : Int} {c : Bool} (h : fitsW b f r o v = c) (w : World) : Calls Tryd.prog 59 #[wordV b f r o, .int .i64 v] w fun e w' => e = .returned (.bool c) ∧ Below w.heap.size w w' := by
  rw [← h]; exact fx_Fits _ _ _ _ _ w
/-- The two structs that are boxed at the entry. -/
theorem entryPI (w : World) (L : List Value) (i : Ins) : ∀ W, W = ((w.alloc (.cells L.toArray 30)).alloc (.cells i.cells.toArray 48)) → Box W w.heap.size L ∧ Box W (w.heap.size + 1) i.cells ∧ Below w.heap.size w W := fun W hW => by
  subst hW
  have h1 : Box (w.alloc (.cells L.toArray 30)) w.heap.size L := Box.new rfl
  have h2 : Box ((w.alloc (.cells L.toArray 30)).alloc (.cells i.cells.toArray 48)) (w.heap.size + 1) i.cells := Box.new (by simp)
  exact ⟨h1.alloc _, h2, ((Below.refl w.heap.size w).alloc (Nat.le_refl _) _).alloc (by simp) _⟩
theorem ops12f {i : Ins} (hf : i.formed = true) : i.op = 0 ∨ i.op = 1 ∨ i.op = 2 ∨ i.op = 3 ∨ i.op = 4 ∨ i.op = 5 ∨ i.op = 6 ∨ i.op = 7 ∨ i.op = 8 ∨ i.op = 9 ∨ i.op = 10 ∨ i.op = 11 := by
  obtain ⟨h, -, -, -⟩ := formed_parts hf
  omega
theorem Box.ext {w : World} {g k : Nat} {vs : List Value} {v : Value} (h : Box w g vs) (hv : vs[k]? = some v) : ∀ n : Ext w, n.to.cell? ⟨g, k, none⟩ = some v := fun n => (n.below.cell (p := ⟨g, k, none⟩) h.1).trans ((h.2.1 k).trans hv)
theorem Box.c10 {w : World} {g : Nat} {a b c d e f h i j k : Value} (x : Box w g [a, b, c, d, e, f, h, i, j, k]) : (w.cell? ⟨g, 0, none⟩ = some a ∧ w.cell? ⟨g, 1, none⟩ = some b ∧ w.cell? ⟨g, 2, none⟩ = some c ∧ w.cell? ⟨g, 3, none⟩ = some d) ∧ (w.cell? ⟨g, 4, none⟩ = some e ∧ w.cell? ⟨g, 5, none⟩ = some f ∧ w.cell? ⟨g, 6, none⟩ = some h ∧ w.cell? ⟨g, 7, none⟩ = some i) ∧ w.cell? ⟨g, 8, none⟩ = some j ∧ w.cell? ⟨g, 9, none⟩ = some k :=
  ⟨⟨x.2.1 0, x.2.1 1, x.2.1 2, x.2.1 3⟩, ⟨x.2.1 4, x.2.1 5, x.2.1 6, x.2.1 7⟩, x.2.1 8, x.2.1 9⟩
set_option maxRecDepth 100000 in
set_option maxHeartbeats 4000000 in
theorem pr_suits (u : PrgA) (g : Nat) (i : Ins) (w : World) (hf : FormsAt w) (hp : RingsAt w u.RA u.d.rg) (hl : u.d.rg.length ≤ 8) (hw : okW u.d.c0 u.d.c1 u.d.c2 u.d.c3 = true) (hg : g < w.heap.size) (hU : ∀ m : Nat, m < 128 → w.cell? ⟨g, m, none⟩ = some (.bool (usdB u.d.rg m))) (r : Bool) (hr : suitB u.d i = r) :
    Calls Tryd.prog 47 #[u.v, .slice (some ⟨g, 0, none⟩) 128 128, i.v] w fun e w' => e = .returned (.bool r) ∧ Below w.heap.size w w' := by
  obtain ⟨⟨d0, d1, d2, d3, c0, c1, c2, c3, rg, code⟩, RA, CA, rc, cc⟩ := u
  obtain ⟨op, a, b, imm⟩ := i
  simp only at hp hl hw hU
  obtain ⟨rn, hrn⟩ : ∃ n, rg.length = n := ⟨_, rfl⟩
  obtain ⟨cn, hcn⟩ : ∃ n, code.length = n := ⟨_, rfl⟩
  have hgoal : ∀ {R : Ending → World → Prop}, Calls Tryd.prog 47 #[.agg #[.int .i64 d0, .int .i64 d1, .int .i64 d2, .int .i64 d3, .int .i64 c0, .int .i64 c1, .int .i64 c2, .int .i64 c3, .slice RA rn rc, .slice CA cn cc], .slice (some ⟨g, 0, none⟩) 128 128, .agg #[.int .i64 op, .int .i64 a, .int .i64 b, .int .i64 imm]] w R →
      Calls Tryd.prog 47 #[PrgA.v ⟨⟨d0, d1, d2, d3, c0, c1, c2, c3, rg, code⟩, RA, CA, rc, cc⟩, .slice (some ⟨g, 0, none⟩) 128 128, Ins.v ⟨op, a, b, imm⟩] w R := fun h => by
    unfold PrgA.v PrgA.lst
    simp only [hrn, hcn]
    exact h
  refine hgoal ?_
  clear hgoal
  rw [hrn] at hl
  obtain ⟨FB, hFB⟩ : ∃ c, Ins.formed ⟨op, a, b, imm⟩ = c := ⟨_, rfl⟩
  have CF : Hid (∀ w1, Below w.heap.size w w1 → Calls Tryd.prog 42 #[.agg #[.int .i64 op, .int .i64 a, .int .i64 b, .int .i64 imm]] w1 fun e w' => e = .returned (.bool FB) ∧ Below w1.heap.size w1 w') := fun w1 hb => by
    rw [← hFB]; exact pr_formed ⟨op, a, b, imm⟩ w1 (hf.grow hb)
  have hok := okW_iff.1 hw
  have HF := Lib.hid hf
  have HP := Lib.hid hp
  have HU := Lib.hid hU
  have HG := Lib.hid hg
  have HW := Lib.hid hw
  have HRN := Lib.hid hrn
  have HR := Lib.hid hr
  have HFB := Lib.hid hFB
  clear hf hp hU hg hw hrn hcn hr hFB

  cases FB with
  | false =>
    obtain rfl : r = false := by rw [← HR.out]; unfold suitB; rw [HFB.out]; rfl
    go_enter Tryd.func47, Tryd.ntmps47
    go_upto_region 1 with fail
    obtain ⟨bp, bi, hb0⟩ := entryPI w [.int .i64 d0, .int .i64 d1, .int .i64 d2, .int .i64 d3, .int .i64 c0, .int .i64 c1, .int .i64 c2, .int .i64 c3, .slice RA rn rc, .slice CA cn cc] ⟨op, a, b, imm⟩ _ rfl
    change Code.wp _ _ _ _ ((w.alloc (.cells [.int .i64 d0, .int .i64 d1, .int .i64 d2, .int .i64 d3, .int .i64 c0, .int .i64 c1, .int .i64 c2, .int .i64 c3, .slice RA rn rc, .slice CA cn cc].toArray 30)).alloc (.cells (Ins.cells ⟨op, a, b, imm⟩).toArray 48))
    generalize ((w.alloc (.cells [.int .i64 d0, .int .i64 d1, .int .i64 d2, .int .i64 d3, .int .i64 c0, .int .i64 c1, .int .i64 c2, .int .i64 c3, .slice RA rn rc, .slice CA cn cc].toArray 30)).alloc (.cells (Ins.cells ⟨op, a, b, imm⟩).toArray 48)) = W0 at bp bi hb0 ⊢
    have HB0 := Lib.hid hb0
    have HBP := Lib.hid bp
    obtain ⟨z0, z1, z2, z3⟩ := bi.c4
    have HBI := Lib.hid bi
    clear hb0 bp bi
    generalize hgp : w.heap.size = gp at HBP HBI z0 z1 z2 z3 ⊢
    have HGP := Lib.hid hgp
    clear hgp
    go_upto_region 2 with (go_at_call 42; (with_reducible refine (CF.out _ HB0.out).mono ?_); rintro e1 w1 ⟨rfl, hb1⟩)
    have bp1 := HBP.out.keep hb1
    have bi1 := HBI.out.keep hb1
    obtain ⟨⟨x0, x1, x2, x3⟩, ⟨x4, x5, x6, x7⟩, x8, x9⟩ := bp1.c10
    obtain ⟨y0, y1, y2, y3⟩ := bi1.c4
    have HB1 := Lib.hid (below_then HB0.out hb1)
    have HBP1 := Lib.hid bp1
    have HBI1 := Lib.hid bi1
    clear z0 z1 z2 z3 hb1 HBP HBI CF bp1 bi1
    go_wp2_with fail
    go_ret
    exact ⟨rfl, HB1.out⟩
  | true =>
    have hc := ops12f HFB.out
    simp only at hc
    rcases hc with rfl | rfl | rfl | rfl | rfl | rfl | rfl | rfl | rfl | rfl | rfl | rfl
    · obtain rfl : r = true := by rw [← HR.out]; unfold suitB; rw [HFB.out]; simp [fitI]
      go_enter Tryd.func47, Tryd.ntmps47
      go_upto_region 1 with fail
      obtain ⟨bp, bi, hb0⟩ := entryPI w [.int .i64 d0, .int .i64 d1, .int .i64 d2, .int .i64 d3, .int .i64 c0, .int .i64 c1, .int .i64 c2, .int .i64 c3, .slice RA rn rc, .slice CA cn cc] ⟨0, a, b, imm⟩ _ rfl
      change Code.wp _ _ _ _ ((w.alloc (.cells [.int .i64 d0, .int .i64 d1, .int .i64 d2, .int .i64 d3, .int .i64 c0, .int .i64 c1, .int .i64 c2, .int .i64 c3, .slice RA rn rc, .slice CA cn cc].toArray 30)).alloc (.cells (Ins.cells ⟨0, a, b, imm⟩).toArray 48))
      generalize ((w.alloc (.cells [.int .i64 d0, .int .i64 d1, .int .i64 d2, .int .i64 d3, .int .i64 c0, .int .i64 c1, .int .i64 c2, .int .i64 c3, .slice RA rn rc, .slice CA cn cc].toArray 30)).alloc (.cells (Ins.cells ⟨0, a, b, imm⟩).toArray 48)) = W0 at bp bi hb0 ⊢
      have HB0 := Lib.hid hb0
      have HBP := Lib.hid bp
      obtain ⟨z0, z1, z2, z3⟩ := bi.c4
      have HBI := Lib.hid bi
      clear hb0 bp bi
      generalize hgp : w.heap.size = gp at HBP HBI z0 z1 z2 z3 ⊢
      have HGP := Lib.hid hgp
      clear hgp
      go_upto_region 3 with (go_at_call 42; (with_reducible refine (CF.out _ HB0.out).mono ?_); rintro e1 w1 ⟨rfl, hb1⟩)
      have bp1 := HBP.out.keep hb1
      have bi1 := HBI.out.keep hb1
      obtain ⟨⟨x0, x1, x2, x3⟩, ⟨x4, x5, x6, x7⟩, x8, x9⟩ := bp1.c10
      obtain ⟨y0, y1, y2, y3⟩ := bi1.c4
      have HB1 := Lib.hid (below_then HB0.out hb1)
      have HBP1 := Lib.hid bp1
      have HBI1 := Lib.hid bi1
      clear z0 z1 z2 z3 hb1 HBP HBI CF bp1 bi1
      have q : w1.cell? ⟨0, 3, none⟩ = some (.int .i64 0) := ((HF.out.grow HB1.out).cells 0 (by decide)).2.2
      go_wp2_with fail
      go_ret
      exact ⟨rfl, HB1.out⟩
    · obtain rfl : r = true := by rw [← HR.out]; unfold suitB; rw [HFB.out]; simp [fitI]
      go_enter Tryd.func47, Tryd.ntmps47
      go_upto_region 1 with fail
      obtain ⟨bp, bi, hb0⟩ := entryPI w [.int .i64 d0, .int .i64 d1, .int .i64 d2, .int .i64 d3, .int .i64 c0, .int .i64 c1, .int .i64 c2, .int .i64 c3, .slice RA rn rc, .slice CA cn cc] ⟨1, a, b, imm⟩ _ rfl
      change Code.wp _ _ _ _ ((w.alloc (.cells [.int .i64 d0, .int .i64 d1, .int .i64 d2, .int .i64 d3, .int .i64 c0, .int .i64 c1, .int .i64 c2, .int .i64 c3, .slice RA rn rc, .slice CA cn cc].toArray 30)).alloc (.cells (Ins.cells ⟨1, a, b, imm⟩).toArray 48))
      generalize ((w.alloc (.cells [.int .i64 d0, .int .i64 d1, .int .i64 d2, .int .i64 d3, .int .i64 c0, .int .i64 c1, .int .i64 c2, .int .i64 c3, .slice RA rn rc, .slice CA cn cc].toArray 30)).alloc (.cells (Ins.cells ⟨1, a, b, imm⟩).toArray 48)) = W0 at bp bi hb0 ⊢
      have HB0 := Lib.hid hb0
      have HBP := Lib.hid bp
      obtain ⟨z0, z1, z2, z3⟩ := bi.c4
      have HBI := Lib.hid bi
      clear hb0 bp bi
      generalize hgp : w.heap.size = gp at HBP HBI z0 z1 z2 z3 ⊢
      have HGP := Lib.hid hgp
      clear hgp
      go_upto_region 3 with (go_at_call 42; (with_reducible refine (CF.out _ HB0.out).mono ?_); rintro e1 w1 ⟨rfl, hb1⟩)
      have bp1 := HBP.out.keep hb1
      have bi1 := HBI.out.keep hb1
      obtain ⟨⟨x0, x1, x2, x3⟩, ⟨x4, x5, x6, x7⟩, x8, x9⟩ := bp1.c10
      obtain ⟨y0, y1, y2, y3⟩ := bi1.c4
      have HB1 := Lib.hid (below_then HB0.out hb1)
      have HBP1 := Lib.hid bp1
      have HBI1 := Lib.hid bi1
      clear z0 z1 z2 z3 hb1 HBP HBI CF bp1 bi1
      have q : w1.cell? ⟨0, 7, none⟩ = some (.int .i64 0) := ((HF.out.grow HB1.out).cells 1 (by decide)).2.2
      go_wp2_with fail
      go_ret
      exact ⟨rfl, HB1.out⟩
    · go_enter Tryd.func47, Tryd.ntmps47
      go_upto_region 1 with fail
      obtain ⟨bp, bi, hb0⟩ := entryPI w [.int .i64 d0, .int .i64 d1, .int .i64 d2, .int .i64 d3, .int .i64 c0, .int .i64 c1, .int .i64 c2, .int .i64 c3, .slice RA rn rc, .slice CA cn cc] ⟨2, a, b, imm⟩ _ rfl
      change Code.wp _ _ _ _ ((w.alloc (.cells [.int .i64 d0, .int .i64 d1, .int .i64 d2, .int .i64 d3, .int .i64 c0, .int .i64 c1, .int .i64 c2, .int .i64 c3, .slice RA rn rc, .slice CA cn cc].toArray 30)).alloc (.cells (Ins.cells ⟨2, a, b, imm⟩).toArray 48))
      generalize ((w.alloc (.cells [.int .i64 d0, .int .i64 d1, .int .i64 d2, .int .i64 d3, .int .i64 c0, .int .i64 c1, .int .i64 c2, .int .i64 c3, .slice RA rn rc, .slice CA cn cc].toArray 30)).alloc (.cells (Ins.cells ⟨2, a, b, imm⟩).toArray 48)) = W0 at bp bi hb0 ⊢
      have HB0 := Lib.hid hb0
      have HBP := Lib.hid bp
      obtain ⟨z0, z1, z2, z3⟩ := bi.c4
      have HBI := Lib.hid bi
      clear hb0 bp bi
      generalize hgp : w.heap.size = gp at HBP HBI z0 z1 z2 z3 ⊢
      have HGP := Lib.hid hgp
      clear hgp
      go_upto_region 3 with (go_at_call 42; (with_reducible refine (CF.out _ HB0.out).mono ?_); rintro e1 w1 ⟨rfl, hb1⟩)
      have bp1 := HBP.out.keep hb1
      have bi1 := HBI.out.keep hb1
      obtain ⟨⟨x0, x1, x2, x3⟩, ⟨x4, x5, x6, x7⟩, x8, x9⟩ := bp1.c10
      obtain ⟨y0, y1, y2, y3⟩ := bi1.c4
      have HB1 := Lib.hid (below_then HB0.out hb1)
      have HBP1 := Lib.hid bp1
      have HBI1 := Lib.hid bi1
      clear z0 z1 z2 z3 hb1 HBP HBI CF bp1 bi1
      have q := ((HF.out.grow HB1.out).cells 2 (by decide)).2.2
      have q : w1.cell? ⟨0, 11, none⟩ = some (.int .i64 5) := q
      obtain ⟨P, hP⟩ : ∃ P, (2 : Int) ^ c1.toNat = P := ⟨_, rfl⟩
      have hsh : wrap64 (2 ^ c1.toNat) = P := by rw [← hP]; exact w64_pow (by omega)
      have hc0 : 0 ≤ c1 := by omega
      have hc62 : c1 < 64 := by omega
      obtain ⟨fb, hfb⟩ : ∃ c, fitsW c0 c1 c2 c3 imm = c := ⟨_, rfl⟩
      go_upto_region 18 with fail
      have e1 := HBP1.out.ext (k := 4) (v := .int .i64 c0) rfl
      have e2 := HBP1.out.ext (k := 5) (v := .int .i64 c1) rfl
      have e3 := HBP1.out.ext (k := 6) (v := .int .i64 c2) rfl
      have e4 := HBP1.out.ext (k := 7) (v := .int .i64 c3) rfl
      have e5 := HBI1.out.ext (k := 3) (v := .int .i64 imm) rfl
      have HFI := Lib.hid hfb
      have HPP := Lib.hid hP
      clear hfb hP
      cases fb with
      | true =>
        obtain rfl : r = true := by rw [← HR.out]; unfold suitB; rw [HFB.out]; simp [fitI, HFI.out]
        refine wp_region_ext (by kernel_rfl) (by kernel_rfl) ?_
        repeat (go_big_quiet_step (first | (go_at_call 59; exact ext_below (fits_is HFI.out _))))
        refine wpQuiet_nil ?_
        rintro _ ⟨⟨w2, hb2⟩, rfl⟩
        go_wp2_with fail
        go_ret
        exact ⟨rfl, below_then HB1.out hb2⟩
      | false =>
        by_cases hi : imm = P
        · obtain rfl : r = true := by rw [← HR.out]; unfold suitB; rw [HFB.out]; simp [fitI, HPP.out, hi]
          have hi1 : (imm == P) = true := by simpa using hi
          have HII := Lib.hid hi
          clear hi
          refine wp_region_ext (by kernel_rfl) (by kernel_rfl) ?_
          repeat (go_big_quiet_step (first | (go_at_call 59; exact ext_below (fits_is HFI.out _))))
          refine wpQuiet_nil ?_
          rintro _ ⟨⟨w2, hb2⟩, rfl⟩
          go_wp2_with fail
          go_ret
          exact ⟨rfl, below_then HB1.out hb2⟩
        · obtain rfl : r = false := by rw [← HR.out]; unfold suitB; rw [HFB.out]; simp [fitI, HFI.out, HPP.out, hi]
          have hi1 : (imm == P) = false := by simpa using hi
          clear hi
          refine wp_region_ext (by kernel_rfl) (by kernel_rfl) ?_
          repeat (go_big_quiet_step (first | (go_at_call 59; exact ext_below (fits_is HFI.out _))))
          refine wpQuiet_nil ?_
          rintro _ ⟨⟨w2, hb2⟩, rfl⟩
          go_wp2_with fail
          go_ret
          exact ⟨rfl, below_then HB1.out hb2⟩
    · obtain ⟨-, ha, hb, -⟩ := formed_parts HFB.out
      simp only at ha hb
      obtain ⟨ka, rfl⟩ := Int.eq_ofNat_of_zero_le ha.1
      have hk0 : (0 : Int) ≤ (ka : Int) := by omega
      have hk1 : (ka : Int) < 128 := by omega
      have hk2 : ka < 128 := by omega
      have HUM := Lib.hid (HU.out ka hk2)
      obtain ⟨ub, hub⟩ : ∃ c, usdB rg (ka : Int) = c := ⟨_, rfl⟩
      rw [hub] at HUM
      have HUB := Lib.hid hub
      clear hub
      cases ub with
      | true =>
        obtain rfl : r = false := by rw [← HR.out]; unfold suitB; rw [HFB.out]; simp [fitI, HUB.out]
        go_enter Tryd.func47, Tryd.ntmps47
        go_upto_region 1 with fail
        obtain ⟨bp, bi, hb0⟩ := entryPI w [.int .i64 d0, .int .i64 d1, .int .i64 d2, .int .i64 d3, .int .i64 c0, .int .i64 c1, .int .i64 c2, .int .i64 c3, .slice RA rn rc, .slice CA cn cc] ⟨3, ka, b, imm⟩ _ rfl
        change Code.wp _ _ _ _ ((w.alloc (.cells [.int .i64 d0, .int .i64 d1, .int .i64 d2, .int .i64 d3, .int .i64 c0, .int .i64 c1, .int .i64 c2, .int .i64 c3, .slice RA rn rc, .slice CA cn cc].toArray 30)).alloc (.cells (Ins.cells ⟨3, ka, b, imm⟩).toArray 48))
        generalize ((w.alloc (.cells [.int .i64 d0, .int .i64 d1, .int .i64 d2, .int .i64 d3, .int .i64 c0, .int .i64 c1, .int .i64 c2, .int .i64 c3, .slice RA rn rc, .slice CA cn cc].toArray 30)).alloc (.cells (Ins.cells ⟨3, ka, b, imm⟩).toArray 48)) = W0 at bp bi hb0 ⊢
        have HB0 := Lib.hid hb0
        have HBP := Lib.hid bp
        obtain ⟨z0, z1, z2, z3⟩ := bi.c4
        have HBI := Lib.hid bi
        clear hb0 bp bi
        generalize hgp : w.heap.size = gp at HBP HBI z0 z1 z2 z3 ⊢
        have HGP := Lib.hid hgp
        clear hgp
        go_upto_region 3 with (go_at_call 42; (with_reducible refine (CF.out _ HB0.out).mono ?_); rintro e1 w1 ⟨rfl, hb1⟩)
        have bp1 := HBP.out.keep hb1
        have bi1 := HBI.out.keep hb1
        obtain ⟨⟨x0, x1, x2, x3⟩, ⟨x4, x5, x6, x7⟩, x8, x9⟩ := bp1.c10
        obtain ⟨y0, y1, y2, y3⟩ := bi1.c4
        have HB1 := Lib.hid (below_then HB0.out hb1)
        have HBP1 := Lib.hid bp1
        have HBI1 := Lib.hid bi1
        clear z0 z1 z2 z3 hb1 HBP HBI CF bp1 bi1
        have q9 : w1.cell? ⟨g, ka, none⟩ = some (.bool true) := (HB1.out.cell (p := ⟨g, ka, none⟩) HG.out).trans HUM.out
        go_wp2_with fail
        go_ret
        exact ⟨rfl, HB1.out⟩
      | false =>
        go_enter Tryd.func47, Tryd.ntmps47
        go_upto_region 1 with fail
        obtain ⟨bp, bi, hb0⟩ := entryPI w [.int .i64 d0, .int .i64 d1, .int .i64 d2, .int .i64 d3, .int .i64 c0, .int .i64 c1, .int .i64 c2, .int .i64 c3, .slice RA rn rc, .slice CA cn cc] ⟨3, ka, b, imm⟩ _ rfl
        change Code.wp _ _ _ _ ((w.alloc (.cells [.int .i64 d0, .int .i64 d1, .int .i64 d2, .int .i64 d3, .int .i64 c0, .int .i64 c1, .int .i64 c2, .int .i64 c3, .slice RA rn rc, .slice CA cn cc].toArray 30)).alloc (.cells (Ins.cells ⟨3, ka, b, imm⟩).toArray 48))
        generalize ((w.alloc (.cells [.int .i64 d0, .int .i64 d1, .int .i64 d2, .int .i64 d3, .int .i64 c0, .int .i64 c1, .int .i64 c2, .int .i64 c3, .slice RA rn rc, .slice CA cn cc].toArray 30)).alloc (.cells (Ins.cells ⟨3, ka, b, imm⟩).toArray 48)) = W0 at bp bi hb0 ⊢
        have HB0 := Lib.hid hb0
        have HBP := Lib.hid bp
        obtain ⟨z0, z1, z2, z3⟩ := bi.c4
        have HBI := Lib.hid bi
        clear hb0 bp bi
        generalize hgp : w.heap.size = gp at HBP HBI z0 z1 z2 z3 ⊢
        have HGP := Lib.hid hgp
        clear hgp
        go_upto_region 3 with (go_at_call 42; (with_reducible refine (CF.out _ HB0.out).mono ?_); rintro e1 w1 ⟨rfl, hb1⟩)
        have bp1 := HBP.out.keep hb1
        have bi1 := HBI.out.keep hb1
        obtain ⟨⟨x0, x1, x2, x3⟩, ⟨x4, x5, x6, x7⟩, x8, x9⟩ := bp1.c10
        obtain ⟨y0, y1, y2, y3⟩ := bi1.c4
        have HB1 := Lib.hid (below_then HB0.out hb1)
        have HBP1 := Lib.hid bp1
        have HBI1 := Lib.hid bi1
        clear z0 z1 z2 z3 hb1 HBP HBI CF bp1 bi1
        have q9 : w1.cell? ⟨g, ka, none⟩ = some (.bool false) := (HB1.out.cell (p := ⟨g, ka, none⟩) HG.out).trans HUM.out
        have q := ((HF.out.grow HB1.out).cells 3 (by decide)).2.2
        have q : w1.cell? ⟨0, 15, none⟩ = some (.int .i64 5) := q
        obtain ⟨P, hP⟩ : ∃ P, (2 : Int) ^ c1.toNat = P := ⟨_, rfl⟩
        have hsh : wrap64 (2 ^ c1.toNat) = P := by rw [← hP]; exact w64_pow (by omega)
        have hc0 : 0 ≤ c1 := by omega
        have hc62 : c1 < 64 := by omega
        obtain ⟨fb, hfb⟩ : ∃ c, fitsW c0 c1 c2 c3 imm = c := ⟨_, rfl⟩
        go_upto_region 18 with fail
        have e1 := HBP1.out.ext (k := 4) (v := .int .i64 c0) rfl
        have e2 := HBP1.out.ext (k := 5) (v := .int .i64 c1) rfl
        have e3 := HBP1.out.ext (k := 6) (v := .int .i64 c2) rfl
        have e4 := HBP1.out.ext (k := 7) (v := .int .i64 c3) rfl
        have e5 := HBI1.out.ext (k := 3) (v := .int .i64 imm) rfl
        have HFI := Lib.hid hfb
        have HPP := Lib.hid hP
        clear hfb hP
        cases fb with
        | true =>
          obtain rfl : r = true := by rw [← HR.out]; unfold suitB; rw [HFB.out]; simp [fitI, HFI.out, HUB.out]
          refine wp_region_ext (by kernel_rfl) (by kernel_rfl) ?_
          repeat (go_big_quiet_step (first | (go_at_call 59; exact ext_below (fits_is HFI.out _))))
          refine wpQuiet_nil ?_
          rintro _ ⟨⟨w2, hb2⟩, rfl⟩
          go_wp2_with fail
          go_ret
          exact ⟨rfl, below_then HB1.out hb2⟩
        | false =>
          by_cases hi : imm = P
          · obtain rfl : r = true := by rw [← HR.out]; unfold suitB; rw [HFB.out]; simp [fitI, HPP.out, hi, HUB.out]
            have hi1 : (imm == P) = true := by simpa using hi
            have HII := Lib.hid hi
            clear hi
            refine wp_region_ext (by kernel_rfl) (by kernel_rfl) ?_
            repeat (go_big_quiet_step (first | (go_at_call 59; exact ext_below (fits_is HFI.out _))))
            refine wpQuiet_nil ?_
            rintro _ ⟨⟨w2, hb2⟩, rfl⟩
            go_wp2_with fail
            go_ret
            exact ⟨rfl, below_then HB1.out hb2⟩
          · obtain rfl : r = false := by rw [← HR.out]; unfold suitB; rw [HFB.out]; simp [fitI, HFI.out, HPP.out, hi, HUB.out]
            have hi1 : (imm == P) = false := by simpa using hi
            clear hi
            refine wp_region_ext (by kernel_rfl) (by kernel_rfl) ?_
            repeat (go_big_quiet_step (first | (go_at_call 59; exact ext_below (fits_is HFI.out _))))
            refine wpQuiet_nil ?_
            rintro _ ⟨⟨w2, hb2⟩, rfl⟩
            go_wp2_with fail
            go_ret
            exact ⟨rfl, below_then HB1.out hb2⟩
    · obtain ⟨-, ha, hb, -⟩ := formed_parts HFB.out
      simp only at ha hb
      obtain ⟨ka, rfl⟩ := Int.eq_ofNat_of_zero_le ha.1
      obtain ⟨kb, rfl⟩ := Int.eq_ofNat_of_zero_le hb.1
      by_cases hk : ka < rn
      · obtain ⟨xr, hxr⟩ : ∃ x, rg[ka]? = some x := ⟨_, List.getElem?_eq_getElem (by rw [HRN.out]; exact hk)⟩
        obtain ⟨ad, rfl, hs, had, hrr, -⟩ := HP.out ka xr hxr
        obtain ⟨-, hxc⟩ := ring_cells hs hrr
        have HAD := Lib.hid had
        have HXC := Lib.hid hxc
        have HXR := Lib.hid hxr
        obtain ⟨xb, xl⟩ := xr
        simp only at hxc HXC
        have hk1 : ¬ (rn : Int) ≤ (ka : Int) := by omega
        have hk2 : decide ((rn : Int) ≤ (ka : Int)) = false := decide_eq_false hk1
        have hk2n : decide (rn ≤ ka) = false := decide_eq_false (by omega)
        have hk1n : ¬ rn ≤ ka := by omega
        have hk3 : (0 : Int) ≤ (ka : Int) := by omega
        have hk4 : (ka : Int) < (rn : Int) := by omega
        clear hs had hrr hxc hxr
        by_cases hkb : (kb : Int) < xl
        · have hkb1 : ¬ xl ≤ (kb : Int) := by omega
          have hkb2 : decide (xl ≤ (kb : Int)) = false := decide_eq_false hkb1
          go_enter Tryd.func47, Tryd.ntmps47
          go_upto_region 1 with fail
          obtain ⟨bp, bi, hb0⟩ := entryPI w [.int .i64 d0, .int .i64 d1, .int .i64 d2, .int .i64 d3, .int .i64 c0, .int .i64 c1, .int .i64 c2, .int .i64 c3, .slice (some ad) rn rc, .slice CA cn cc] ⟨4, ka, kb, imm⟩ _ rfl
          change Code.wp _ _ _ _ ((w.alloc (.cells [.int .i64 d0, .int .i64 d1, .int .i64 d2, .int .i64 d3, .int .i64 c0, .int .i64 c1, .int .i64 c2, .int .i64 c3, .slice (some ad) rn rc, .slice CA cn cc].toArray 30)).alloc (.cells (Ins.cells ⟨4, ka, kb, imm⟩).toArray 48))
          generalize ((w.alloc (.cells [.int .i64 d0, .int .i64 d1, .int .i64 d2, .int .i64 d3, .int .i64 c0, .int .i64 c1, .int .i64 c2, .int .i64 c3, .slice (some ad) rn rc, .slice CA cn cc].toArray 30)).alloc (.cells (Ins.cells ⟨4, ka, kb, imm⟩).toArray 48)) = W0 at bp bi hb0 ⊢
          have HB0 := Lib.hid hb0
          have HBP := Lib.hid bp
          obtain ⟨z0, z1, z2, z3⟩ := bi.c4
          have HBI := Lib.hid bi
          clear hb0 bp bi
          generalize hgp : w.heap.size = gp at HBP HBI z0 z1 z2 z3 ⊢
          have HGP := Lib.hid hgp
          clear hgp
          go_upto_region 3 with (go_at_call 42; (with_reducible refine (CF.out _ HB0.out).mono ?_); rintro e1 w1 ⟨rfl, hb1⟩)
          have bp1 := HBP.out.keep hb1
          have bi1 := HBI.out.keep hb1
          obtain ⟨⟨x0, x1, x2, x3⟩, ⟨x4, x5, x6, x7⟩, x8, x9⟩ := bp1.c10
          obtain ⟨y0, y1, y2, y3⟩ := bi1.c4
          have HB1 := Lib.hid (below_then HB0.out hb1)
          have HBP1 := Lib.hid bp1
          have HBI1 := Lib.hid bi1
          clear z0 z1 z2 z3 hb1 HBP HBI CF bp1 bi1
          go_upto_region 5 with fail
          have e1 := HBP1.out.ext (k := 8) (v := .slice (some ad) rn rc) rfl
          have e2 := HBI1.out.ext (k := 1) (v := .int .i64 (ka : Int)) rfl
          have e3 := HBI1.out.ext (k := 2) (v := .int .i64 (kb : Int)) rfl
          have EX := Lib.hid (fun n : Ext w1 => (n.below.cell (p := ⟨(ad.add (ka * 2)).block, (ad.add (ka * 2)).off + 1, none⟩) (by rw [block_add]; exact Nat.lt_of_lt_of_le HAD.out HB1.out.size)).trans ((HB1.out.cell (p := ⟨(ad.add (ka * 2)).block, (ad.add (ka * 2)).off + 1, none⟩) (by rw [block_add]; exact HAD.out)).trans HXC.out))
          have e4 := EX.out
          refine wp_region_ext (by kernel_rfl) (by kernel_rfl) ?_
          repeat (go_big_quiet_step (fail))
          refine wpQuiet_nil ?_
          rintro w2 ⟨⟨_, hb2⟩, rfl⟩
          have HB2 := Lib.hid (below_then HB1.out hb2)
          have HBP2 := Lib.hid (HBP1.out.keep hb2)
          have HBI2 := Lib.hid (HBI1.out.keep hb2)
          obtain ⟨⟨x0, x1, x2, x3⟩, ⟨x4, x5, x6, x7⟩, x8, x9⟩ := HBP2.out.c10
          obtain ⟨y0, y1, y2, y3⟩ := HBI2.out.c4
          clear hb2 HB1 HBP1 HBI1 e1 e2 e3
          have q := ((HF.out.grow HB2.out).cells 4 (by decide)).2.2
          have q : w2.cell? ⟨0, 19, none⟩ = some (.int .i64 5) := q
          obtain ⟨P, hP⟩ : ∃ P, (2 : Int) ^ c1.toNat = P := ⟨_, rfl⟩
          have hsh : wrap64 (2 ^ c1.toNat) = P := by rw [← hP]; exact w64_pow (by omega)
          have hc0 : 0 ≤ c1 := by omega
          have hc62 : c1 < 64 := by omega
          obtain ⟨fb, hfb⟩ : ∃ c, fitsW c0 c1 c2 c3 imm = c := ⟨_, rfl⟩
          go_upto_region 18 with fail
          have e1 := HBP2.out.ext (k := 4) (v := .int .i64 c0) rfl
          have e2 := HBP2.out.ext (k := 5) (v := .int .i64 c1) rfl
          have e3 := HBP2.out.ext (k := 6) (v := .int .i64 c2) rfl
          have e4 := HBP2.out.ext (k := 7) (v := .int .i64 c3) rfl
          have e5 := HBI2.out.ext (k := 3) (v := .int .i64 imm) rfl
          have HFI := Lib.hid hfb
          have HPP := Lib.hid hP
          clear hfb hP
          cases fb with
          | true =>
            obtain rfl : r = true := by rw [← HR.out]; unfold suitB; rw [HFB.out]; simp [fitI, HFI.out, HRN.out, List.getD_eq_getElem?_getD, HXR.out]; omega
            refine wp_region_ext (by kernel_rfl) (by kernel_rfl) ?_
            repeat (go_big_quiet_step (first | (go_at_call 59; exact ext_below (fits_is HFI.out _))))
            refine wpQuiet_nil ?_
            rintro _ ⟨⟨w3, hb3⟩, rfl⟩
            go_wp2_with fail
            go_ret
            exact ⟨rfl, below_then HB2.out hb3⟩
          | false =>
            by_cases hi : imm = P
            · obtain rfl : r = true := by rw [← HR.out]; unfold suitB; rw [HFB.out]; simp [fitI, HPP.out, hi, HRN.out, List.getD_eq_getElem?_getD, HXR.out]; omega
              have hi1 : (imm == P) = true := by simpa using hi
              have HII := Lib.hid hi
              clear hi
              refine wp_region_ext (by kernel_rfl) (by kernel_rfl) ?_
              repeat (go_big_quiet_step (first | (go_at_call 59; exact ext_below (fits_is HFI.out _))))
              refine wpQuiet_nil ?_
              rintro _ ⟨⟨w3, hb3⟩, rfl⟩
              go_wp2_with fail
              go_ret
              exact ⟨rfl, below_then HB2.out hb3⟩
            · obtain rfl : r = false := by rw [← HR.out]; unfold suitB; rw [HFB.out]; simp [fitI, HFI.out, HPP.out, hi]
              have hi1 : (imm == P) = false := by simpa using hi
              clear hi
              refine wp_region_ext (by kernel_rfl) (by kernel_rfl) ?_
              repeat (go_big_quiet_step (first | (go_at_call 59; exact ext_below (fits_is HFI.out _))))
              refine wpQuiet_nil ?_
              rintro _ ⟨⟨w3, hb3⟩, rfl⟩
              go_wp2_with fail
              go_ret
              exact ⟨rfl, below_then HB2.out hb3⟩
        · obtain rfl : r = false := by rw [← HR.out]; unfold suitB; rw [HFB.out]; simp [fitI, HRN.out, List.getD_eq_getElem?_getD, HXR.out]; omega
          have hkb1 : xl ≤ (kb : Int) := by omega
          have hkb2 : decide (xl ≤ (kb : Int)) = true := decide_eq_true hkb1
          go_enter Tryd.func47, Tryd.ntmps47
          go_upto_region 1 with fail
          obtain ⟨bp, bi, hb0⟩ := entryPI w [.int .i64 d0, .int .i64 d1, .int .i64 d2, .int .i64 d3, .int .i64 c0, .int .i64 c1, .int .i64 c2, .int .i64 c3, .slice (some ad) rn rc, .slice CA cn cc] ⟨4, ka, kb, imm⟩ _ rfl
          change Code.wp _ _ _ _ ((w.alloc (.cells [.int .i64 d0, .int .i64 d1, .int .i64 d2, .int .i64 d3, .int .i64 c0, .int .i64 c1, .int .i64 c2, .int .i64 c3, .slice (some ad) rn rc, .slice CA cn cc].toArray 30)).alloc (.cells (Ins.cells ⟨4, ka, kb, imm⟩).toArray 48))
          generalize ((w.alloc (.cells [.int .i64 d0, .int .i64 d1, .int .i64 d2, .int .i64 d3, .int .i64 c0, .int .i64 c1, .int .i64 c2, .int .i64 c3, .slice (some ad) rn rc, .slice CA cn cc].toArray 30)).alloc (.cells (Ins.cells ⟨4, ka, kb, imm⟩).toArray 48)) = W0 at bp bi hb0 ⊢
          have HB0 := Lib.hid hb0
          have HBP := Lib.hid bp
          obtain ⟨z0, z1, z2, z3⟩ := bi.c4
          have HBI := Lib.hid bi
          clear hb0 bp bi
          generalize hgp : w.heap.size = gp at HBP HBI z0 z1 z2 z3 ⊢
          have HGP := Lib.hid hgp
          clear hgp
          go_upto_region 3 with (go_at_call 42; (with_reducible refine (CF.out _ HB0.out).mono ?_); rintro e1 w1 ⟨rfl, hb1⟩)
          have bp1 := HBP.out.keep hb1
          have bi1 := HBI.out.keep hb1
          obtain ⟨⟨x0, x1, x2, x3⟩, ⟨x4, x5, x6, x7⟩, x8, x9⟩ := bp1.c10
          obtain ⟨y0, y1, y2, y3⟩ := bi1.c4
          have HB1 := Lib.hid (below_then HB0.out hb1)
          have HBP1 := Lib.hid bp1
          have HBI1 := Lib.hid bi1
          clear z0 z1 z2 z3 hb1 HBP HBI CF bp1 bi1
          go_upto_region 5 with fail
          have e1 := HBP1.out.ext (k := 8) (v := .slice (some ad) rn rc) rfl
          have e2 := HBI1.out.ext (k := 1) (v := .int .i64 (ka : Int)) rfl
          have e3 := HBI1.out.ext (k := 2) (v := .int .i64 (kb : Int)) rfl
          have EX := Lib.hid (fun n : Ext w1 => (n.below.cell (p := ⟨(ad.add (ka * 2)).block, (ad.add (ka * 2)).off + 1, none⟩) (by rw [block_add]; exact Nat.lt_of_lt_of_le HAD.out HB1.out.size)).trans ((HB1.out.cell (p := ⟨(ad.add (ka * 2)).block, (ad.add (ka * 2)).off + 1, none⟩) (by rw [block_add]; exact HAD.out)).trans HXC.out))
          have e4 := EX.out
          refine wp_region_ext (by kernel_rfl) (by kernel_rfl) ?_
          repeat (go_big_quiet_step (fail))
          refine wpQuiet_nil ?_
          rintro w2 ⟨⟨_, hb2⟩, rfl⟩
          have HB2 := Lib.hid (below_then HB1.out hb2)
          have HBP2 := Lib.hid (HBP1.out.keep hb2)
          have HBI2 := Lib.hid (HBI1.out.keep hb2)
          obtain ⟨⟨x0, x1, x2, x3⟩, ⟨x4, x5, x6, x7⟩, x8, x9⟩ := HBP2.out.c10
          obtain ⟨y0, y1, y2, y3⟩ := HBI2.out.c4
          clear hb2 HB1 HBP1 HBI1 e1 e2 e3
          go_wp2_with fail
          go_ret
          exact ⟨rfl, HB2.out⟩
      · obtain rfl : r = false := by rw [← HR.out]; unfold suitB; rw [HFB.out]; simp [fitI, HRN.out, hk]
        have hk1 : (rn : Int) ≤ (ka : Int) := by omega
        have hk2 : decide ((rn : Int) ≤ (ka : Int)) = true := decide_eq_true hk1
        have hk2n : decide (rn ≤ ka) = true := decide_eq_true (by omega)
        have hk1n : rn ≤ ka := by omega
        go_enter Tryd.func47, Tryd.ntmps47
        go_upto_region 1 with fail
        obtain ⟨bp, bi, hb0⟩ := entryPI w [.int .i64 d0, .int .i64 d1, .int .i64 d2, .int .i64 d3, .int .i64 c0, .int .i64 c1, .int .i64 c2, .int .i64 c3, .slice RA rn rc, .slice CA cn cc] ⟨4, ka, kb, imm⟩ _ rfl
        change Code.wp _ _ _ _ ((w.alloc (.cells [.int .i64 d0, .int .i64 d1, .int .i64 d2, .int .i64 d3, .int .i64 c0, .int .i64 c1, .int .i64 c2, .int .i64 c3, .slice RA rn rc, .slice CA cn cc].toArray 30)).alloc (.cells (Ins.cells ⟨4, ka, kb, imm⟩).toArray 48))
        generalize ((w.alloc (.cells [.int .i64 d0, .int .i64 d1, .int .i64 d2, .int .i64 d3, .int .i64 c0, .int .i64 c1, .int .i64 c2, .int .i64 c3, .slice RA rn rc, .slice CA cn cc].toArray 30)).alloc (.cells (Ins.cells ⟨4, ka, kb, imm⟩).toArray 48)) = W0 at bp bi hb0 ⊢
        have HB0 := Lib.hid hb0
        have HBP := Lib.hid bp
        obtain ⟨z0, z1, z2, z3⟩ := bi.c4
        have HBI := Lib.hid bi
        clear hb0 bp bi
        generalize hgp : w.heap.size = gp at HBP HBI z0 z1 z2 z3 ⊢
        have HGP := Lib.hid hgp
        clear hgp
        go_upto_region 3 with (go_at_call 42; (with_reducible refine (CF.out _ HB0.out).mono ?_); rintro e1 w1 ⟨rfl, hb1⟩)
        have bp1 := HBP.out.keep hb1
        have bi1 := HBI.out.keep hb1
        obtain ⟨⟨x0, x1, x2, x3⟩, ⟨x4, x5, x6, x7⟩, x8, x9⟩ := bp1.c10
        obtain ⟨y0, y1, y2, y3⟩ := bi1.c4
        have HB1 := Lib.hid (below_then HB0.out hb1)
        have HBP1 := Lib.hid bp1
        have HBI1 := Lib.hid bi1
        clear z0 z1 z2 z3 hb1 HBP HBI CF bp1 bi1
        go_upto_region 5 with fail
        have e1 := HBP1.out.ext (k := 8) (v := .slice RA rn rc) rfl
        have e2 := HBI1.out.ext (k := 1) (v := .int .i64 (ka : Int)) rfl
        have e3 := HBI1.out.ext (k := 2) (v := .int .i64 (kb : Int)) rfl
        refine wp_region_ext (by kernel_rfl) (by kernel_rfl) ?_
        repeat (go_big_quiet_step (fail))
        refine wpQuiet_nil ?_
        rintro w2 ⟨⟨_, hb2⟩, rfl⟩
        have HB2 := Lib.hid (below_then HB1.out hb2)
        have HBP2 := Lib.hid (HBP1.out.keep hb2)
        have HBI2 := Lib.hid (HBI1.out.keep hb2)
        obtain ⟨⟨x0, x1, x2, x3⟩, ⟨x4, x5, x6, x7⟩, x8, x9⟩ := HBP2.out.c10
        obtain ⟨y0, y1, y2, y3⟩ := HBI2.out.c4
        clear hb2 HB1 HBP1 HBI1 e1 e2 e3
        go_wp2_with fail
        go_ret
        exact ⟨rfl, HB2.out⟩
    · obtain rfl : r = true := by rw [← HR.out]; unfold suitB; rw [HFB.out]; simp [fitI]
      go_enter Tryd.func47, Tryd.ntmps47
      go_upto_region 1 with fail
      obtain ⟨bp, bi, hb0⟩ := entryPI w [.int .i64 d0, .int .i64 d1, .int .i64 d2, .int .i64 d3, .int .i64 c0, .int .i64 c1, .int .i64 c2, .int .i64 c3, .slice RA rn rc, .slice CA cn cc] ⟨5, a, b, imm⟩ _ rfl
      change Code.wp _ _ _ _ ((w.alloc (.cells [.int .i64 d0, .int .i64 d1, .int .i64 d2, .int .i64 d3, .int .i64 c0, .int .i64 c1, .int .i64 c2, .int .i64 c3, .slice RA rn rc, .slice CA cn cc].toArray 30)).alloc (.cells (Ins.cells ⟨5, a, b, imm⟩).toArray 48))
      generalize ((w.alloc (.cells [.int .i64 d0, .int .i64 d1, .int .i64 d2, .int .i64 d3, .int .i64 c0, .int .i64 c1, .int .i64 c2, .int .i64 c3, .slice RA rn rc, .slice CA cn cc].toArray 30)).alloc (.cells (Ins.cells ⟨5, a, b, imm⟩).toArray 48)) = W0 at bp bi hb0 ⊢
      have HB0 := Lib.hid hb0
      have HBP := Lib.hid bp
      obtain ⟨z0, z1, z2, z3⟩ := bi.c4
      have HBI := Lib.hid bi
      clear hb0 bp bi
      generalize hgp : w.heap.size = gp at HBP HBI z0 z1 z2 z3 ⊢
      have HGP := Lib.hid hgp
      clear hgp
      go_upto_region 3 with (go_at_call 42; (with_reducible refine (CF.out _ HB0.out).mono ?_); rintro e1 w1 ⟨rfl, hb1⟩)
      have bp1 := HBP.out.keep hb1
      have bi1 := HBI.out.keep hb1
      obtain ⟨⟨x0, x1, x2, x3⟩, ⟨x4, x5, x6, x7⟩, x8, x9⟩ := bp1.c10
      obtain ⟨y0, y1, y2, y3⟩ := bi1.c4
      have HB1 := Lib.hid (below_then HB0.out hb1)
      have HBP1 := Lib.hid bp1
      have HBI1 := Lib.hid bi1
      clear z0 z1 z2 z3 hb1 HBP HBI CF bp1 bi1
      have q : w1.cell? ⟨0, 23, none⟩ = some (.int .i64 0) := ((HF.out.grow HB1.out).cells 5 (by decide)).2.2
      go_wp2_with fail
      go_ret
      exact ⟨rfl, HB1.out⟩
    · obtain ⟨-, ha, hb, -⟩ := formed_parts HFB.out
      simp only at ha hb
      obtain ⟨kb, rfl⟩ := Int.eq_ofNat_of_zero_le hb.1
      have hk0 : (0 : Int) ≤ (kb : Int) := by omega
      have hk1 : (kb : Int) < 128 := by omega
      have hk2 : kb < 128 := by omega
      have HUM := Lib.hid (HU.out kb hk2)
      obtain ⟨ub, hub⟩ : ∃ c, usdB rg (kb : Int) = c := ⟨_, rfl⟩
      rw [hub] at HUM
      have HUB := Lib.hid hub
      clear hub
      cases ub with
      | true =>
        obtain rfl : r = false := by rw [← HR.out]; unfold suitB; rw [HFB.out]; simp [fitI, HUB.out]
        go_enter Tryd.func47, Tryd.ntmps47
        go_upto_region 1 with fail
        obtain ⟨bp, bi, hb0⟩ := entryPI w [.int .i64 d0, .int .i64 d1, .int .i64 d2, .int .i64 d3, .int .i64 c0, .int .i64 c1, .int .i64 c2, .int .i64 c3, .slice RA rn rc, .slice CA cn cc] ⟨6, a, kb, imm⟩ _ rfl
        change Code.wp _ _ _ _ ((w.alloc (.cells [.int .i64 d0, .int .i64 d1, .int .i64 d2, .int .i64 d3, .int .i64 c0, .int .i64 c1, .int .i64 c2, .int .i64 c3, .slice RA rn rc, .slice CA cn cc].toArray 30)).alloc (.cells (Ins.cells ⟨6, a, kb, imm⟩).toArray 48))
        generalize ((w.alloc (.cells [.int .i64 d0, .int .i64 d1, .int .i64 d2, .int .i64 d3, .int .i64 c0, .int .i64 c1, .int .i64 c2, .int .i64 c3, .slice RA rn rc, .slice CA cn cc].toArray 30)).alloc (.cells (Ins.cells ⟨6, a, kb, imm⟩).toArray 48)) = W0 at bp bi hb0 ⊢
        have HB0 := Lib.hid hb0
        have HBP := Lib.hid bp
        obtain ⟨z0, z1, z2, z3⟩ := bi.c4
        have HBI := Lib.hid bi
        clear hb0 bp bi
        generalize hgp : w.heap.size = gp at HBP HBI z0 z1 z2 z3 ⊢
        have HGP := Lib.hid hgp
        clear hgp
        go_upto_region 3 with (go_at_call 42; (with_reducible refine (CF.out _ HB0.out).mono ?_); rintro e1 w1 ⟨rfl, hb1⟩)
        have bp1 := HBP.out.keep hb1
        have bi1 := HBI.out.keep hb1
        obtain ⟨⟨x0, x1, x2, x3⟩, ⟨x4, x5, x6, x7⟩, x8, x9⟩ := bp1.c10
        obtain ⟨y0, y1, y2, y3⟩ := bi1.c4
        have HB1 := Lib.hid (below_then HB0.out hb1)
        have HBP1 := Lib.hid bp1
        have HBI1 := Lib.hid bi1
        clear z0 z1 z2 z3 hb1 HBP HBI CF bp1 bi1
        have q9 : w1.cell? ⟨g, kb, none⟩ = some (.bool true) := (HB1.out.cell (p := ⟨g, kb, none⟩) HG.out).trans HUM.out
        go_wp2_with fail
        go_ret
        exact ⟨rfl, HB1.out⟩
      | false =>
        obtain rfl : r = true := by rw [← HR.out]; unfold suitB; rw [HFB.out]; simp [fitI, HUB.out]
        go_enter Tryd.func47, Tryd.ntmps47
        go_upto_region 1 with fail
        obtain ⟨bp, bi, hb0⟩ := entryPI w [.int .i64 d0, .int .i64 d1, .int .i64 d2, .int .i64 d3, .int .i64 c0, .int .i64 c1, .int .i64 c2, .int .i64 c3, .slice RA rn rc, .slice CA cn cc] ⟨6, a, kb, imm⟩ _ rfl
        change Code.wp _ _ _ _ ((w.alloc (.cells [.int .i64 d0, .int .i64 d1, .int .i64 d2, .int .i64 d3, .int .i64 c0, .int .i64 c1, .int .i64 c2, .int .i64 c3, .slice RA rn rc, .slice CA cn cc].toArray 30)).alloc (.cells (Ins.cells ⟨6, a, kb, imm⟩).toArray 48))
        generalize ((w.alloc (.cells [.int .i64 d0, .int .i64 d1, .int .i64 d2, .int .i64 d3, .int .i64 c0, .int .i64 c1, .int .i64 c2, .int .i64 c3, .slice RA rn rc, .slice CA cn cc].toArray 30)).alloc (.cells (Ins.cells ⟨6, a, kb, imm⟩).toArray 48)) = W0 at bp bi hb0 ⊢
        have HB0 := Lib.hid hb0
        have HBP := Lib.hid bp
        obtain ⟨z0, z1, z2, z3⟩ := bi.c4
        have HBI := Lib.hid bi
        clear hb0 bp bi
        generalize hgp : w.heap.size = gp at HBP HBI z0 z1 z2 z3 ⊢
        have HGP := Lib.hid hgp
        clear hgp
        go_upto_region 3 with (go_at_call 42; (with_reducible refine (CF.out _ HB0.out).mono ?_); rintro e1 w1 ⟨rfl, hb1⟩)
        have bp1 := HBP.out.keep hb1
        have bi1 := HBI.out.keep hb1
        obtain ⟨⟨x0, x1, x2, x3⟩, ⟨x4, x5, x6, x7⟩, x8, x9⟩ := bp1.c10
        obtain ⟨y0, y1, y2, y3⟩ := bi1.c4
        have HB1 := Lib.hid (below_then HB0.out hb1)
        have HBP1 := Lib.hid bp1
        have HBI1 := Lib.hid bi1
        clear z0 z1 z2 z3 hb1 HBP HBI CF bp1 bi1
        have q9 : w1.cell? ⟨g, kb, none⟩ = some (.bool false) := (HB1.out.cell (p := ⟨g, kb, none⟩) HG.out).trans HUM.out
        have q : w1.cell? ⟨0, 27, none⟩ = some (.int .i64 0) := ((HF.out.grow HB1.out).cells 6 (by decide)).2.2
        go_wp2_with fail
        go_ret
        exact ⟨rfl, HB1.out⟩
    · obtain ⟨-, ha, hb, -⟩ := formed_parts HFB.out
      simp only at ha hb
      obtain ⟨kb, rfl⟩ := Int.eq_ofNat_of_zero_le hb.1
      have hk0 : (0 : Int) ≤ (kb : Int) := by omega
      have hk1 : (kb : Int) < 128 := by omega
      have hk2 : kb < 128 := by omega
      have HUM := Lib.hid (HU.out kb hk2)
      obtain ⟨ub, hub⟩ : ∃ c, usdB rg (kb : Int) = c := ⟨_, rfl⟩
      rw [hub] at HUM
      have HUB := Lib.hid hub
      clear hub
      cases ub with
      | true =>
        obtain rfl : r = false := by rw [← HR.out]; unfold suitB; rw [HFB.out]; simp [fitI, HUB.out]
        go_enter Tryd.func47, Tryd.ntmps47
        go_upto_region 1 with fail
        obtain ⟨bp, bi, hb0⟩ := entryPI w [.int .i64 d0, .int .i64 d1, .int .i64 d2, .int .i64 d3, .int .i64 c0, .int .i64 c1, .int .i64 c2, .int .i64 c3, .slice RA rn rc, .slice CA cn cc] ⟨7, a, kb, imm⟩ _ rfl
        change Code.wp _ _ _ _ ((w.alloc (.cells [.int .i64 d0, .int .i64 d1, .int .i64 d2, .int .i64 d3, .int .i64 c0, .int .i64 c1, .int .i64 c2, .int .i64 c3, .slice RA rn rc, .slice CA cn cc].toArray 30)).alloc (.cells (Ins.cells ⟨7, a, kb, imm⟩).toArray 48))
        generalize ((w.alloc (.cells [.int .i64 d0, .int .i64 d1, .int .i64 d2, .int .i64 d3, .int .i64 c0, .int .i64 c1, .int .i64 c2, .int .i64 c3, .slice RA rn rc, .slice CA cn cc].toArray 30)).alloc (.cells (Ins.cells ⟨7, a, kb, imm⟩).toArray 48)) = W0 at bp bi hb0 ⊢
        have HB0 := Lib.hid hb0
        have HBP := Lib.hid bp
        obtain ⟨z0, z1, z2, z3⟩ := bi.c4
        have HBI := Lib.hid bi
        clear hb0 bp bi
        generalize hgp : w.heap.size = gp at HBP HBI z0 z1 z2 z3 ⊢
        have HGP := Lib.hid hgp
        clear hgp
        go_upto_region 3 with (go_at_call 42; (with_reducible refine (CF.out _ HB0.out).mono ?_); rintro e1 w1 ⟨rfl, hb1⟩)
        have bp1 := HBP.out.keep hb1
        have bi1 := HBI.out.keep hb1
        obtain ⟨⟨x0, x1, x2, x3⟩, ⟨x4, x5, x6, x7⟩, x8, x9⟩ := bp1.c10
        obtain ⟨y0, y1, y2, y3⟩ := bi1.c4
        have HB1 := Lib.hid (below_then HB0.out hb1)
        have HBP1 := Lib.hid bp1
        have HBI1 := Lib.hid bi1
        clear z0 z1 z2 z3 hb1 HBP HBI CF bp1 bi1
        have q9 : w1.cell? ⟨g, kb, none⟩ = some (.bool true) := (HB1.out.cell (p := ⟨g, kb, none⟩) HG.out).trans HUM.out
        go_wp2_with fail
        go_ret
        exact ⟨rfl, HB1.out⟩
      | false =>
        obtain rfl : r = true := by rw [← HR.out]; unfold suitB; rw [HFB.out]; simp [fitI, HUB.out]
        go_enter Tryd.func47, Tryd.ntmps47
        go_upto_region 1 with fail
        obtain ⟨bp, bi, hb0⟩ := entryPI w [.int .i64 d0, .int .i64 d1, .int .i64 d2, .int .i64 d3, .int .i64 c0, .int .i64 c1, .int .i64 c2, .int .i64 c3, .slice RA rn rc, .slice CA cn cc] ⟨7, a, kb, imm⟩ _ rfl
        change Code.wp _ _ _ _ ((w.alloc (.cells [.int .i64 d0, .int .i64 d1, .int .i64 d2, .int .i64 d3, .int .i64 c0, .int .i64 c1, .int .i64 c2, .int .i64 c3, .slice RA rn rc, .slice CA cn cc].toArray 30)).alloc (.cells (Ins.cells ⟨7, a, kb, imm⟩).toArray 48))
        generalize ((w.alloc (.cells [.int .i64 d0, .int .i64 d1, .int .i64 d2, .int .i64 d3, .int .i64 c0, .int .i64 c1, .int .i64 c2, .int .i64 c3, .slice RA rn rc, .slice CA cn cc].toArray 30)).alloc (.cells (Ins.cells ⟨7, a, kb, imm⟩).toArray 48)) = W0 at bp bi hb0 ⊢
        have HB0 := Lib.hid hb0
        have HBP := Lib.hid bp
        obtain ⟨z0, z1, z2, z3⟩ := bi.c4
        have HBI := Lib.hid bi
        clear hb0 bp bi
        generalize hgp : w.heap.size = gp at HBP HBI z0 z1 z2 z3 ⊢
        have HGP := Lib.hid hgp
        clear hgp
        go_upto_region 3 with (go_at_call 42; (with_reducible refine (CF.out _ HB0.out).mono ?_); rintro e1 w1 ⟨rfl, hb1⟩)
        have bp1 := HBP.out.keep hb1
        have bi1 := HBI.out.keep hb1
        obtain ⟨⟨x0, x1, x2, x3⟩, ⟨x4, x5, x6, x7⟩, x8, x9⟩ := bp1.c10
        obtain ⟨y0, y1, y2, y3⟩ := bi1.c4
        have HB1 := Lib.hid (below_then HB0.out hb1)
        have HBP1 := Lib.hid bp1
        have HBI1 := Lib.hid bi1
        clear z0 z1 z2 z3 hb1 HBP HBI CF bp1 bi1
        have q9 : w1.cell? ⟨g, kb, none⟩ = some (.bool false) := (HB1.out.cell (p := ⟨g, kb, none⟩) HG.out).trans HUM.out
        have q : w1.cell? ⟨0, 31, none⟩ = some (.int .i64 0) := ((HF.out.grow HB1.out).cells 7 (by decide)).2.2
        go_wp2_with fail
        go_ret
        exact ⟨rfl, HB1.out⟩
    · obtain ⟨-, ha, -⟩ := formed_parts HFB.out
      simp only at ha
      obtain ⟨ka, rfl⟩ := Int.eq_ofNat_of_zero_le ha.1
      by_cases hk : ka < rn
      · obtain rfl : r = true := by rw [← HR.out]; unfold suitB; rw [HFB.out]; simp [fitI, HRN.out]; omega
        have hk1 : ¬ (rn : Int) ≤ (ka : Int) := by omega
        go_enter Tryd.func47, Tryd.ntmps47
        go_upto_region 1 with fail
        obtain ⟨bp, bi, hb0⟩ := entryPI w [.int .i64 d0, .int .i64 d1, .int .i64 d2, .int .i64 d3, .int .i64 c0, .int .i64 c1, .int .i64 c2, .int .i64 c3, .slice RA rn rc, .slice CA cn cc] ⟨8, ka, b, imm⟩ _ rfl
        change Code.wp _ _ _ _ ((w.alloc (.cells [.int .i64 d0, .int .i64 d1, .int .i64 d2, .int .i64 d3, .int .i64 c0, .int .i64 c1, .int .i64 c2, .int .i64 c3, .slice RA rn rc, .slice CA cn cc].toArray 30)).alloc (.cells (Ins.cells ⟨8, ka, b, imm⟩).toArray 48))
        generalize ((w.alloc (.cells [.int .i64 d0, .int .i64 d1, .int .i64 d2, .int .i64 d3, .int .i64 c0, .int .i64 c1, .int .i64 c2, .int .i64 c3, .slice RA rn rc, .slice CA cn cc].toArray 30)).alloc (.cells (Ins.cells ⟨8, ka, b, imm⟩).toArray 48)) = W0 at bp bi hb0 ⊢
        have HB0 := Lib.hid hb0
        have HBP := Lib.hid bp
        obtain ⟨z0, z1, z2, z3⟩ := bi.c4
        have HBI := Lib.hid bi
        clear hb0 bp bi
        generalize hgp : w.heap.size = gp at HBP HBI z0 z1 z2 z3 ⊢
        have HGP := Lib.hid hgp
        clear hgp
        go_upto_region 3 with (go_at_call 42; (with_reducible refine (CF.out _ HB0.out).mono ?_); rintro e1 w1 ⟨rfl, hb1⟩)
        have bp1 := HBP.out.keep hb1
        have bi1 := HBI.out.keep hb1
        obtain ⟨⟨x0, x1, x2, x3⟩, ⟨x4, x5, x6, x7⟩, x8, x9⟩ := bp1.c10
        obtain ⟨y0, y1, y2, y3⟩ := bi1.c4
        have HB1 := Lib.hid (below_then HB0.out hb1)
        have HBP1 := Lib.hid bp1
        have HBI1 := Lib.hid bi1
        clear z0 z1 z2 z3 hb1 HBP HBI CF bp1 bi1
        have q : w1.cell? ⟨0, 35, none⟩ = some (.int .i64 0) := ((HF.out.grow HB1.out).cells 8 (by decide)).2.2
        go_wp2_with fail
        go_ret
        exact ⟨rfl, HB1.out⟩
      · obtain rfl : r = false := by rw [← HR.out]; unfold suitB; rw [HFB.out]; simp [fitI, HRN.out]; omega
        have hk1 : (rn : Int) ≤ (ka : Int) := by omega
        go_enter Tryd.func47, Tryd.ntmps47
        go_upto_region 1 with fail
        obtain ⟨bp, bi, hb0⟩ := entryPI w [.int .i64 d0, .int .i64 d1, .int .i64 d2, .int .i64 d3, .int .i64 c0, .int .i64 c1, .int .i64 c2, .int .i64 c3, .slice RA rn rc, .slice CA cn cc] ⟨8, ka, b, imm⟩ _ rfl
        change Code.wp _ _ _ _ ((w.alloc (.cells [.int .i64 d0, .int .i64 d1, .int .i64 d2, .int .i64 d3, .int .i64 c0, .int .i64 c1, .int .i64 c2, .int .i64 c3, .slice RA rn rc, .slice CA cn cc].toArray 30)).alloc (.cells (Ins.cells ⟨8, ka, b, imm⟩).toArray 48))
        generalize ((w.alloc (.cells [.int .i64 d0, .int .i64 d1, .int .i64 d2, .int .i64 d3, .int .i64 c0, .int .i64 c1, .int .i64 c2, .int .i64 c3, .slice RA rn rc, .slice CA cn cc].toArray 30)).alloc (.cells (Ins.cells ⟨8, ka, b, imm⟩).toArray 48)) = W0 at bp bi hb0 ⊢
        have HB0 := Lib.hid hb0
        have HBP := Lib.hid bp
        obtain ⟨z0, z1, z2, z3⟩ := bi.c4
        have HBI := Lib.hid bi
        clear hb0 bp bi
        generalize hgp : w.heap.size = gp at HBP HBI z0 z1 z2 z3 ⊢
        have HGP := Lib.hid hgp
        clear hgp
        go_upto_region 3 with (go_at_call 42; (with_reducible refine (CF.out _ HB0.out).mono ?_); rintro e1 w1 ⟨rfl, hb1⟩)
        have bp1 := HBP.out.keep hb1
        have bi1 := HBI.out.keep hb1
        obtain ⟨⟨x0, x1, x2, x3⟩, ⟨x4, x5, x6, x7⟩, x8, x9⟩ := bp1.c10
        obtain ⟨y0, y1, y2, y3⟩ := bi1.c4
        have HB1 := Lib.hid (below_then HB0.out hb1)
        have HBP1 := Lib.hid bp1
        have HBI1 := Lib.hid bi1
        clear z0 z1 z2 z3 hb1 HBP HBI CF bp1 bi1
        go_wp2_with fail
        go_ret
        exact ⟨rfl, HB1.out⟩
    · obtain rfl : r = true := by rw [← HR.out]; unfold suitB; rw [HFB.out]; simp [fitI]
      go_enter Tryd.func47, Tryd.ntmps47
      go_upto_region 1 with fail
      obtain ⟨bp, bi, hb0⟩ := entryPI w [.int .i64 d0, .int .i64 d1, .int .i64 d2, .int .i64 d3, .int .i64 c0, .int .i64 c1, .int .i64 c2, .int .i64 c3, .slice RA rn rc, .slice CA cn cc] ⟨9, a, b, imm⟩ _ rfl
      change Code.wp _ _ _ _ ((w.alloc (.cells [.int .i64 d0, .int .i64 d1, .int .i64 d2, .int .i64 d3, .int .i64 c0, .int .i64 c1, .int .i64 c2, .int .i64 c3, .slice RA rn rc, .slice CA cn cc].toArray 30)).alloc (.cells (Ins.cells ⟨9, a, b, imm⟩).toArray 48))
      generalize ((w.alloc (.cells [.int .i64 d0, .int .i64 d1, .int .i64 d2, .int .i64 d3, .int .i64 c0, .int .i64 c1, .int .i64 c2, .int .i64 c3, .slice RA rn rc, .slice CA cn cc].toArray 30)).alloc (.cells (Ins.cells ⟨9, a, b, imm⟩).toArray 48)) = W0 at bp bi hb0 ⊢
      have HB0 := Lib.hid hb0
      have HBP := Lib.hid bp
      obtain ⟨z0, z1, z2, z3⟩ := bi.c4
      have HBI := Lib.hid bi
      clear hb0 bp bi
      generalize hgp : w.heap.size = gp at HBP HBI z0 z1 z2 z3 ⊢
      have HGP := Lib.hid hgp
      clear hgp
      go_upto_region 3 with (go_at_call 42; (with_reducible refine (CF.out _ HB0.out).mono ?_); rintro e1 w1 ⟨rfl, hb1⟩)
      have bp1 := HBP.out.keep hb1
      have bi1 := HBI.out.keep hb1
      obtain ⟨⟨x0, x1, x2, x3⟩, ⟨x4, x5, x6, x7⟩, x8, x9⟩ := bp1.c10
      obtain ⟨y0, y1, y2, y3⟩ := bi1.c4
      have HB1 := Lib.hid (below_then HB0.out hb1)
      have HBP1 := Lib.hid bp1
      have HBI1 := Lib.hid bi1
      clear z0 z1 z2 z3 hb1 HBP HBI CF bp1 bi1
      have q : w1.cell? ⟨0, 39, none⟩ = some (.int .i64 0) := ((HF.out.grow HB1.out).cells 9 (by decide)).2.2
      go_wp2_with fail
      go_ret
      exact ⟨rfl, HB1.out⟩
    · obtain rfl : r = true := by rw [← HR.out]; unfold suitB; rw [HFB.out]; simp [fitI]
      go_enter Tryd.func47, Tryd.ntmps47
      go_upto_region 1 with fail
      obtain ⟨bp, bi, hb0⟩ := entryPI w [.int .i64 d0, .int .i64 d1, .int .i64 d2, .int .i64 d3, .int .i64 c0, .int .i64 c1, .int .i64 c2, .int .i64 c3, .slice RA rn rc, .slice CA cn cc] ⟨10, a, b, imm⟩ _ rfl
      change Code.wp _ _ _ _ ((w.alloc (.cells [.int .i64 d0, .int .i64 d1, .int .i64 d2, .int .i64 d3, .int .i64 c0, .int .i64 c1, .int .i64 c2, .int .i64 c3, .slice RA rn rc, .slice CA cn cc].toArray 30)).alloc (.cells (Ins.cells ⟨10, a, b, imm⟩).toArray 48))
      generalize ((w.alloc (.cells [.int .i64 d0, .int .i64 d1, .int .i64 d2, .int .i64 d3, .int .i64 c0, .int .i64 c1, .int .i64 c2, .int .i64 c3, .slice RA rn rc, .slice CA cn cc].toArray 30)).alloc (.cells (Ins.cells ⟨10, a, b, imm⟩).toArray 48)) = W0 at bp bi hb0 ⊢
      have HB0 := Lib.hid hb0
      have HBP := Lib.hid bp
      obtain ⟨z0, z1, z2, z3⟩ := bi.c4
      have HBI := Lib.hid bi
      clear hb0 bp bi
      generalize hgp : w.heap.size = gp at HBP HBI z0 z1 z2 z3 ⊢
      have HGP := Lib.hid hgp
      clear hgp
      go_upto_region 3 with (go_at_call 42; (with_reducible refine (CF.out _ HB0.out).mono ?_); rintro e1 w1 ⟨rfl, hb1⟩)
      have bp1 := HBP.out.keep hb1
      have bi1 := HBI.out.keep hb1
      obtain ⟨⟨x0, x1, x2, x3⟩, ⟨x4, x5, x6, x7⟩, x8, x9⟩ := bp1.c10
      obtain ⟨y0, y1, y2, y3⟩ := bi1.c4
      have HB1 := Lib.hid (below_then HB0.out hb1)
      have HBP1 := Lib.hid bp1
      have HBI1 := Lib.hid bi1
      clear z0 z1 z2 z3 hb1 HBP HBI CF bp1 bi1
      have q : w1.cell? ⟨0, 43, none⟩ = some (.int .i64 0) := ((HF.out.grow HB1.out).cells 10 (by decide)).2.2
      go_wp2_with fail
      go_ret
      exact ⟨rfl, HB1.out⟩
    · obtain rfl : r = true := by rw [← HR.out]; unfold suitB; rw [HFB.out]; simp [fitI]
      go_enter Tryd.func47, Tryd.ntmps47
      go_upto_region 1 with fail
      obtain ⟨bp, bi, hb0⟩ := entryPI w [.int .i64 d0, .int .i64 d1, .int .i64 d2, .int .i64 d3, .int .i64 c0, .int .i64 c1, .int .i64 c2, .int .i64 c3, .slice RA rn rc, .slice CA cn cc] ⟨11, a, b, imm⟩ _ rfl
      change Code.wp _ _ _ _ ((w.alloc (.cells [.int .i64 d0, .int .i64 d1, .int .i64 d2, .int .i64 d3, .int .i64 c0, .int .i64 c1, .int .i64 c2, .int .i64 c3, .slice RA rn rc, .slice CA cn cc].toArray 30)).alloc (.cells (Ins.cells ⟨11, a, b, imm⟩).toArray 48))
      generalize ((w.alloc (.cells [.int .i64 d0, .int .i64 d1, .int .i64 d2, .int .i64 d3, .int .i64 c0, .int .i64 c1, .int .i64 c2, .int .i64 c3, .slice RA rn rc, .slice CA cn cc].toArray 30)).alloc (.cells (Ins.cells ⟨11, a, b, imm⟩).toArray 48)) = W0 at bp bi hb0 ⊢
      have HB0 := Lib.hid hb0
      have HBP := Lib.hid bp
      obtain ⟨z0, z1, z2, z3⟩ := bi.c4
      have HBI := Lib.hid bi
      clear hb0 bp bi
      generalize hgp : w.heap.size = gp at HBP HBI z0 z1 z2 z3 ⊢
      have HGP := Lib.hid hgp
      clear hgp
      go_upto_region 3 with (go_at_call 42; (with_reducible refine (CF.out _ HB0.out).mono ?_); rintro e1 w1 ⟨rfl, hb1⟩)
      have bp1 := HBP.out.keep hb1
      have bi1 := HBI.out.keep hb1
      obtain ⟨⟨x0, x1, x2, x3⟩, ⟨x4, x5, x6, x7⟩, x8, x9⟩ := bp1.c10
      obtain ⟨y0, y1, y2, y3⟩ := bi1.c4
      have HB1 := Lib.hid (below_then HB0.out hb1)
      have HBP1 := Lib.hid bp1
      have HBI1 := Lib.hid bi1
      clear z0 z1 z2 z3 hb1 HBP HBI CF bp1 bi1
      have q : w1.cell? ⟨0, 47, none⟩ = some (.int .i64 0) := ((HF.out.grow HB1.out).cells 11 (by decide)).2.2
      go_wp2_with fail
      go_ret
      exact ⟨rfl, HB1.out⟩
end Go.Proofs.YtpmbgcfnehplaaaDoor
end
section
/- Check of package processor. -/
set_option linter.unusedVariables false
set_option linter.unusedSimpArgs false
namespace Go.Proofs.YtpmbgcfnehplaaaDoor
open Go.RowKit

def RetChk (w : World) (d : PrgD) (e : Ending) (w' : World) : Prop := e = .returned (.tuple #[.int .i64 (chkF d).1, .int .i64 (chkF d).2]) ∧ Below w.heap.size w w'
theorem RetChk.mk {w w' : World} {d : PrgD} {a b : Int} (h : chkF d = (a, b)) (hb : Below w.heap.size w w') : RetChk w d (.returned (.tuple #[.int .i64 a, .int .i64 b])) w' := ⟨by rw [h], hb⟩
def BoxB (w : World) (g : Nat) (l : List Bool) : Prop := Box w g (l.map Value.bool)
theorem BoxB.cell {w : World} {g k : Nat} {l : List Bool} {b : Bool} (h : BoxB w g l) (hk : l[k]? = some b) : w.cell? ⟨g, k, none⟩ = some (.bool b) := by
  rw [h.2.1 k, List.getElem?_map, hk]; rfl
theorem BoxB.free {w : World} {g : Nat} {l : List Bool} (h : BoxB w g l) (k : Nat) : w.frozen? ⟨g, k, none⟩ = false := h.2.2 k
theorem BoxB.keep {w w' : World} {g : Nat} {l : List Bool} (h : BoxB w g l) (hb : Below w.heap.size w w') : BoxB w' g l := Box.keep h hb
theorem BoxB.set {w : World} {g k : Nat} {l : List Bool} {b : Bool} (h : BoxB w g l) (hk : k < l.length) : BoxB (w.setCell ⟨g, k, none⟩ (.bool b)) g (l.set k b) := by
  unfold BoxB
  rw [List.map_set]
  exact Box.set h (by rw [List.length_map]; exact hk)
/-- What is boxed at the entry. -/
theorem entryP (w : World) (L : List Value) : ∀ W, W = (w.alloc (.cells L.toArray 30)) → Box W w.heap.size L ∧ Below w.heap.size w W := fun W hW => by
  subst hW
  exact ⟨Box.new rfl, (Below.refl w.heap.size w).alloc (Nat.le_refl _) _⟩
theorem size_prgS : (Tryd.prog.info? 30).map (·.size) = some 10 := by kernel_rfl
theorem row_prgS : ∃ d, Tryd.prog.underlying 30 = some d ∧ d.isRow = true := ⟨_, Tryd.underlying30, rfl⟩
theorem qld_prg {ops : Array Oper} {rest : List Oper} {o : Oper} {a : Act} {Q : Act → Prop} {W : World} {g : Nat} {L : List Value} (hb : Box W g L) (hL : L.length = 10) (hw : Region.wanted o (yielded ops a.tmps) = true) (x : Operand) (ho : o.op = .load 30 x) (hx : a.eval x = .pointer (some ⟨g, 0, none⟩)) (h : wpQuiet Tryd.prog ops (fun w' => ∃ n : Ext W, w' = n.to) Q rest (a.put o.dst (.agg L.toArray))) : wpQuiet Tryd.prog ops (fun w' => ∃ n : Ext W, w' = n.to) Q (o :: rest) a := by
  obtain ⟨d, h1, h2⟩ := row_prgS
  refine qld_mid hw _ x ho g 0 hx L d (fun w hw' => ?_) h1 h2 (by rw [hL]; exact size_prgS) h
  obtain ⟨n, rfl⟩ := hw'
  intro j v hj
  rw [Nat.zero_add]
  exact hb.ext hj n
theorem qld_insB {ops : Array Oper} {rest : List Oper} {o : Oper} {a : Act} {Q : Act → Prop} {W : World} {g : Nat} {i : Ins} (hb : Box W g i.cells) (hw : Region.wanted o (yielded ops a.tmps) = true) (x : Operand) (ho : o.op = .load 48 x) (hx : a.eval x = .pointer (some ⟨g, 0, none⟩)) (h : wpQuiet Tryd.prog ops (fun w' => ∃ n : Ext W, w' = n.to) Q rest (a.put o.dst i.v)) : wpQuiet Tryd.prog ops (fun w' => ∃ n : Ext W, w' = n.to) Q (o :: rest) a := by
  obtain ⟨d, h1, h2⟩ := row_ins
  refine qld_mid hw _ x ho g 0 hx i.cells d (fun w hw' => ?_) h1 h2 size_ins h
  obtain ⟨n, rfl⟩ := hw'
  intro j v hj
  rw [Nat.zero_add]
  exact hb.ext hj n
theorem st_ring {ops : Array Oper} {rest : List Oper} {o : Oper} {a : Act} {Q : Exit → Act → World → Prop} {w : World} {x0 x1 y0 y1 : Int} {g : Nat} (hb : Box w g [.int .i64 x0, .int .i64 x1]) (hgd : o.guard = none) (x y : Operand) (ho : o.op = .store 45 x y) (hx : a.eval x = .pointer (some ⟨g, 0, none⟩)) (hy : a.eval y = .agg #[.int .i64 y0, .int .i64 y1])
    (h : ∀ W1, Box W1 g [.int .i64 y0, .int .i64 y1] → w.grownBy W1 (some g) → wpList Tryd.prog ops Q rest (a.put o.dst undef) W1) : wpList Tryd.prog ops Q (o :: rest) a w :=
  wp_st hgd _ x y ho g 0 [.int .i64 y0, .int .i64 y1] hx hy size_ring rfl hb (by show 0 + 2 ≤ 2; omega) rfl h
theorem marks0 : (Array.replicate 128 (Value.bool false)).toList = (markF [] 0 0).map Value.bool := by kernel_rfl
/-- The state at a round of the loop over the buffers. -/
def ckR (w : World) (gp gu rn : Nat) (L : List Value) (rg : List (Int × Int)) (x : Value) (wr : World) : Prop :=
  ∃ k : Nat, k ≤ rn ∧ x = .int .i64 k ∧ Hid (Below w.heap.size w wr) ∧ Hid (Box wr gp L) ∧ Hid (BoxB wr gu (markF (rg.take k) 0 0)) ∧ Hid (ringsK rg k = true)
def ckU (w : World) (gp gu gr m : Nat) (L : List Value) (l : List (Int × Int)) (xb xl : Int) (x : Value) (wr : World) : Prop :=
  ∃ k : Nat, k ≤ m ∧ x = .int .i64 k ∧ Hid (Below w.heap.size w wr) ∧ Hid (Box wr gp L) ∧ Hid (BoxB wr gu (markF l xb k)) ∧ Hid (Box wr gr [.int .i64 xb, .int .i64 xl]) ∧ Hid (∀ t : Nat, t < k → usdB l (xb + t) = false)
def ckC (w : World) (gp gu cn : Nat) (L : List Value) (rg : List (Int × Int)) (d : PrgD) (x : Value) (wr : World) : Prop :=
  ∃ k : Nat, k ≤ cn ∧ x = .int .i64 k ∧ Hid (Below w.heap.size w wr) ∧ Hid (Box wr gp L) ∧ Hid (BoxB wr gu (markF rg 0 0)) ∧ Hid (∀ j, j < k → goodAt d j = true)
set_option maxRecDepth 100000 in
set_option maxHeartbeats 8000000 in
theorem pr_Check (u : PrgA) (w : World) (hf : FormsAt w) (hp : PrgAt w u) (hr9 : u.d.rg.length ≤ 9223372036854775807) (hc9 : u.d.code.length ≤ 9223372036854775807) :
    Calls Tryd.prog 33 #[u.v] w (RetChk w u.d) := by
  obtain ⟨⟨d0, d1, d2, d3, c0, c1, c2, c3, rg, code⟩, RA, CA, rc, cc⟩ := u
  obtain ⟨hra, hca⟩ := hp
  simp only at hra hca hr9 hc9
  obtain ⟨rn, hrn⟩ : ∃ n, rg.length = n := ⟨_, rfl⟩
  obtain ⟨cn, hcn⟩ : ∃ n, code.length = n := ⟨_, rfl⟩
  obtain ⟨PD, hPD⟩ : ∃ x : PrgD, x = ⟨d0, d1, d2, d3, c0, c1, c2, c3, rg, code⟩ := ⟨_, rfl⟩
  have hgoal : Calls Tryd.prog 33 #[.agg #[.int .i64 d0, .int .i64 d1, .int .i64 d2, .int .i64 d3, .int .i64 c0, .int .i64 c1, .int .i64 c2, .int .i64 c3, .slice RA rn rc, .slice CA cn cc]] w (RetChk w PD) →
      Calls Tryd.prog 33 #[PrgA.v ⟨⟨d0, d1, d2, d3, c0, c1, c2, c3, rg, code⟩, RA, CA, rc, cc⟩] w (RetChk w (PrgA.d ⟨⟨d0, d1, d2, d3, c0, c1, c2, c3, rg, code⟩, RA, CA, rc, cc⟩)) := fun h => by
    unfold PrgA.v PrgA.lst
    simp only [hrn, hcn]
    rw [← hPD]
    exact h
  refine hgoal ?_
  clear hgoal
  rw [hrn] at hr9
  rw [hcn] at hc9
  obtain ⟨oD, hoD⟩ : ∃ c, okW d0 d1 d2 d3 = c := ⟨_, rfl⟩
  obtain ⟨oC, hoC⟩ : ∃ c, okW c0 c1 c2 c3 = c := ⟨_, rfl⟩
  have HV : Hid (okWD PD = (oD && oC)) := by rw [hPD]; unfold okWD; simp only; rw [hoD, hoC]; exact Lib.hid rfl
  have HD := Lib.hid hoD
  have HC := Lib.hid hoC
  have HF := Lib.hid hf
  have HRA := Lib.hid hra
  have HCA := Lib.hid hca
  have HRN := Lib.hid hrn
  have HCN := Lib.hid hcn
  have HPD := Lib.hid hPD
  clear hoD hoC hf hra hca hrn hcn hPD
  cases oD with
  | false =>
    go_enter Tryd.func33, Tryd.ntmps33
    go_wp2_with (go_at_call 46; (with_reducible refine (fx_Valid_is HD.out _).mono ?_); rintro e1 w1 ⟨rfl, hb1⟩)
    go_ret2
    exact RetChk.mk (chk_words HV.out) (((Below.refl _ _).alloc (Nat.le_refl _) _).trans (hb1.mono (by simp)))
  | true =>
    go_enter Tryd.func33, Tryd.ntmps33
    go_upto_region 1 with fail
    obtain ⟨bp, hb0⟩ := entryP w [.int .i64 d0, .int .i64 d1, .int .i64 d2, .int .i64 d3, .int .i64 c0, .int .i64 c1, .int .i64 c2, .int .i64 c3, .slice RA rn rc, .slice CA cn cc] _ rfl
    change Code.wp _ _ _ _ (w.alloc (.cells [.int .i64 d0, .int .i64 d1, .int .i64 d2, .int .i64 d3, .int .i64 c0, .int .i64 c1, .int .i64 c2, .int .i64 c3, .slice RA rn rc, .slice CA cn cc].toArray 30))
    generalize (w.alloc (.cells [.int .i64 d0, .int .i64 d1, .int .i64 d2, .int .i64 d3, .int .i64 c0, .int .i64 c1, .int .i64 c2, .int .i64 c3, .slice RA rn rc, .slice CA cn cc].toArray 30)) = W0 at bp hb0 ⊢
    have HB0 := Lib.hid hb0
    obtain ⟨⟨x0, x1, x2, x3⟩, ⟨x4, x5, x6, x7⟩, x8, x9⟩ := bp.c10
    have HBP0 := Lib.hid bp
    clear hb0 bp
    generalize hgp : w.heap.size = gp at HBP0 x0 x1 x2 x3 x4 x5 x6 x7 x8 x9 ⊢
    have HGP := Lib.hid hgp
    clear hgp
    obtain ⟨L, hL⟩ : ∃ L : List Value, [.int .i64 d0, .int .i64 d1, .int .i64 d2, .int .i64 d3, .int .i64 c0, .int .i64 c1, .int .i64 c2, .int .i64 c3, .slice RA rn rc, .slice CA cn cc] = L := ⟨_, rfl⟩
    rw [hL] at HBP0
    have HL := Lib.hid hL
    clear hL
    cases oC with
    | false =>
      go_wp2_with (go_at_call 46; (first
        | ((with_reducible refine (fx_Valid_is HD.out _).mono ?_); rintro e1 w1 ⟨rfl, hb1⟩; have hk1 := HBP0.out.keep hb1; rw [← HL.out] at hk1; obtain ⟨⟨x0, x1, x2, x3⟩, ⟨x4, x5, x6, x7⟩, x8, x9⟩ := hk1.c10)
        | ((with_reducible refine (fx_Valid_is HC.out _).mono ?_); rintro e1 w2 ⟨rfl, hb2⟩)))
      go_ret2
      exact RetChk.mk (chk_words HV.out) (below_then (below_then HB0.out hb1) hb2)
    | true =>
      go_upto_region 3 with (go_at_call 46; (first
        | ((with_reducible refine (fx_Valid_is HD.out _).mono ?_); rintro e1 w1 ⟨rfl, hb1⟩; have hk1 := HBP0.out.keep hb1; rw [← HL.out] at hk1; obtain ⟨⟨x0, x1, x2, x3⟩, ⟨x4, x5, x6, x7⟩, x8, x9⟩ := hk1.c10)
        | ((with_reducible refine (fx_Valid_is HC.out _).mono ?_); rintro e1 w2 ⟨rfl, hb2⟩)))
      have HB2 := Lib.hid (below_then (below_then HB0.out hb1) hb2)
      have HBP2 := Lib.hid ((HBP0.out.keep hb1).keep hb2)
      have hk2 := HBP2.out
      rw [← HL.out] at hk2
      obtain ⟨⟨x0, x1, x2, x3⟩, ⟨x4, x5, x6, x7⟩, x8, x9⟩ := hk2.c10
      clear hb1 hb2 hk1 hk2 HBP0 HB0
      have HV1 : Hid (okWD PD = true) := HV
      have HRG : Hid (PD.rg = rg) := by rw [HPD.out]; exact Lib.hid rfl
      have HCO : Hid (PD.code = code) := by rw [HPD.out]; exact Lib.hid rfl
      by_cases h8 : rn ≤ 8
      · have h81 : ¬ (8 : Int) < (rn : Int) := by omega
        go_upto_region 6 with fail
        have bu : BoxB (w2.alloc (.cells (Array.replicate 128 (.bool false)) 86)) w2.heap.size (markF [] 0 0) := by
          have h : Box (w2.alloc (.cells (Array.replicate 128 (.bool false)) 86)) w2.heap.size (Array.replicate 128 (Value.bool false)).toList := Box.new rfl
          rw [marks0] at h
          exact h
        have HB3 := Lib.hid (HB2.out.alloc HB2.out.size (.cells (Array.replicate 128 (.bool false)) 86))
        have HBP3 := Lib.hid (HBP2.out.alloc (.cells (Array.replicate 128 (.bool false)) 86))
        have HBU3 := Lib.hid bu
        have HGU : Hid (gp < w2.heap.size) := Lib.hid HBP2.out.1
        clear bu HB2 HBP2
        change Code.wp _ _ _ _ (w2.alloc (.cells (Array.replicate 128 (.bool false)) 86))
        generalize (w2.alloc (.cells (Array.replicate 128 (.bool false)) 86)) = w3 at HB3 HBP3 HBU3 ⊢
        generalize w2.heap.size = gu at HBU3 HGU ⊢
        have hk3 := HBP3.out
        rw [← HL.out] at hk3
        obtain ⟨⟨x0, x1, x2, x3⟩, ⟨x4, x5, x6, x7⟩, x8, x9⟩ := hk3.c10
        clear hk3
        go_wp2_with fail
        clear x0 x1 x2 x3 x4 x5 x6 x7 x8 x9
        go_loopw [28] (fun x wr => ckR w gp gu rn L rg x wr) (fun x _ => rn - (intOf x).toNat)
        case atStart => exact ⟨0, Nat.zero_le _, rfl, HB3, HBP3, HBU3, Lib.hid rfl⟩
        case round =>
          obtain ⟨k, hk, rfl, HB, HBP, HBU, HRK⟩ := hrel
          by_cases hlt : k < rn
          · obtain ⟨⟨xb, xl⟩, hx⟩ : ∃ x, rg[k]? = some x := ⟨_, List.getElem?_eq_getElem (by rw [HRN.out]; exact hlt)⟩
            obtain ⟨ad, hRA, hs, hb, hr, hok⟩ := (HRA.out.grow HB.out) k (xb, xl) hx
            obtain ⟨r0, r1⟩ := ring_cells hs hr
            simp only at r0 r1
            subst hRA
            obtain ⟨⟨i1, i2⟩, ⟨i3, i4⟩⟩ := hok
            simp only at i1 i2 i3 i4
            have hgd : rg.getD k (0, 0) = (xb, xl) := by rw [List.getD_eq_getElem?_getD, hx]; rfl
            have htk := take_snoc' hx
            have HX := Lib.hid hgd
            have HTK := Lib.hid htk
            have q1 : (0 : Int) ≤ (k : Int) := by omega
            have q2 : (k : Int) < (rn : Int) := by omega
            have wk : IntKind.i64.wrap ((k : Int) + 1) = ((k + 1 : Nat) : Int) := (IntWalk.i64_in _ (by omega)).trans (by omega)
            clear hgd htk hx hs hb hr
            go_upto_region 9 with (first
              | ((with_reducible show wpList _ _ _ (Oper.mk _ (.store 45 _ _) _ _ _ _ :: _) _ _); refine st_ring (w := wr.alloc (.cells #[.int .i64 0, .int .i64 0] 45)) (g := wr.heap.size) (Box.new rfl) rfl _ _ rfl rfl rfl ?_; intro W2 b2 p2))
            have hb2 := put_facts ((Below.refl wr.heap.size wr).alloc (Nat.le_refl _) (.cells #[.int .i64 0, .int .i64 0] 45)) (Nat.le_refl _) p2
            have HB2 := Lib.hid (below_then HB.out hb2)
            have HBP2 := Lib.hid (HBP.out.keep hb2)
            have HBU2 := Lib.hid (HBU.out.keep hb2)
            have HGR : Hid (gu < wr.heap.size) := Lib.hid HBU.out.1
            have HGB : Hid (w.heap.size ≤ wr.heap.size) := Lib.hid HB.out.size
            have HBR2 := Lib.hid b2
            obtain ⟨y0, y1⟩ := b2.c2
            clear b2 p2 hb2 HB HBP HBU r0 r1
            generalize wr.heap.size = gr at HGR HGB HBR2 y0 y1 ⊢
            have HRK1 : Hid (ringsK rg (k + 1) = false → chkF PD = (-1, 23)) := Lib.hid fun h => chk_rings HV1.out (by rw [HRG.out]; exact ringsB_no (k := k + 1) (by rw [HRN.out]; omega) h)
            have HRI : Hid (ringIn (xb, xl) = false → chkF PD = (-1, 23)) := Lib.hid fun h => HRK1.out (by unfold ringsK; rw [HX.out, h]; simp)
            have hbad : ∀ h : ¬ (1 ≤ xl ∧ xl ≤ 128 ∧ 0 ≤ xb ∧ xb ≤ 128 - xl), chkF PD = (-1, 23) := fun h => HRI.out (by unfold ringIn; exact decide_eq_false h)
            have HBAD := Lib.hid hbad
            clear hbad HRI
            by_cases h1 : xl < 1
            · have g1 : decide (xl < 1) = true := decide_eq_true h1
              go_wp2_with fail
              go_ret2
              exact RetChk.mk (HBAD.out (by omega)) HB2.out
            have g1 : decide (xl < 1) = false := decide_eq_false h1
            by_cases h2 : 128 < xl
            · have g2 : decide (128 < xl) = true := decide_eq_true h2
              go_wp2_with fail
              go_ret2
              exact RetChk.mk (HBAD.out (by omega)) HB2.out
            have g2 : decide (128 < xl) = false := decide_eq_false h2
            by_cases h3 : xb < 0
            · have g3 : decide (xb < 0) = true := decide_eq_true h3
              go_wp2_with fail
              go_ret2
              exact RetChk.mk (HBAD.out (by omega)) HB2.out
            have g3 : decide (xb < 0) = false := decide_eq_false h3
            have w1 : IntKind.i64.wrap (128 - xl) = 128 - xl := IntWalk.i64_in _ (by omega)
            by_cases h4 : 128 - xl < xb
            · have g4 : decide (128 - xl < xb) = true := decide_eq_true h4
              go_wp2_with fail
              go_ret2
              exact RetChk.mk (HBAD.out (by omega)) HB2.out
            have g4 : decide (128 - xl < xb) = false := decide_eq_false h4
            obtain ⟨m, hm⟩ := Int.eq_ofNat_of_zero_le (show 0 ≤ xl by omega)
            obtain ⟨q, hq⟩ := Int.eq_ofNat_of_zero_le (show 0 ≤ xb by omega)
            have HRI : Hid (ringIn (xb, xl) = true) := Lib.hid (ringIn_iff.2 (by simp only; omega))
            clear HBAD
            subst hm hq
            go_wp2_with fail
            clear g1 g2 g3 g4 h1 h2 h3 h4 w1
            go_loopw [55] (fun x wx => ckU w gp gu gr m L (rg.take k) (q : Int) (m : Int) x wx) (fun x _ => m - (intOf x).toNat)
            case atStart => exact ⟨0, Nat.zero_le _, rfl, HB2, HBP2, by rw [markF_zero _ _ 0]; exact HBU2, HBR2, Lib.hid fun t ht => by omega⟩
            case round =>
              obtain ⟨j, hj, rfl, HBj, HBPj, HBUj, HBRj, HNO⟩ := hrel
              obtain ⟨y0, y1⟩ := HBRj.out.c2
              by_cases hjm : j < m
              · obtain ⟨p, hp⟩ : ∃ p : Nat, q + j = p := ⟨_, rfl⟩
                have hp8 : p < 128 := by
                  have := ringIn_iff.1 HRI.out
                  simp only at this
                  omega
                have wp : IntKind.i64.wrap ((q : Int) + (j : Int)) = (p : Int) := (IntWalk.i64_in _ (by omega)).trans (by omega)
                have p1 : (0 : Int) ≤ (p : Int) := by omega
                have p2 : (p : Int) < 128 := by omega
                have j1 : (j : Int) < (m : Int) := by omega
                obtain ⟨ub, hub⟩ : ∃ c, usdB (rg.take k) (p : Int) = c := ⟨_, rfl⟩
                have hmk : (markF (rg.take k) (q : Int) j)[p]? = some ub := by
                  rw [markF_get hp8, hub]
                  have : inR (p : Int) ((q : Int), (j : Int)) = false := by unfold inR; rw [decide_eq_false_iff_not]; simp only; omega
                  rw [this, Bool.or_false]
                have z9 := HBUj.out.cell hmk
                have z8 := HBUj.out.free p
                have HP := Lib.hid hp
                have HUB := Lib.hid hub
                have wj : IntKind.i64.wrap ((j : Int) + 1) = ((j + 1 : Nat) : Int) := (IntWalk.i64_in _ (by omega)).trans (by omega)
                clear hmk hp hub
                cases ub with
                | true =>
                  go_wp2_with fail
                  go_ret2
                  refine RetChk.mk (HRK1.out ?_) HBj.out
                  unfold ringsK
                  rw [HX.out, HRI.out]
                  have hc : (rg.take k).any (clash ((q : Int), (m : Int))) = true := (clash_used (by simp only; omega) fun y hy => by
                    have := ringIn_iff.1 (ringsK_all HRK.out (by rw [HRN.out]; omega) y hy)
                    omega).2 ⟨j, by simp only; omega, by
                      have h2 := HUB.out
                      rw [← HP.out] at h2
                      rw [← h2]; rfl⟩
                  rw [hc]; simp
                | false =>
                  go_wp2_with fail
                  go_roundw
                  case rel => exact ⟨j + 1, by omega, by go_num, Lib.hid (below_set HBj.out (by have := HGU.out; have := HGP.out; omega)), Lib.hid (HBPj.out.past (by have := HGU.out; omega)), by
                    have h := HBUj.out.set (k := p) (b := true) (by rw [markF_len]; exact hp8)
                    rw [markF_next (by rw [← HP.out]; omega) hp8] at h
                    exact h, Lib.hid (HBRj.out.past (by have := HGR.out; omega)), Lib.hid fun t ht => by
                      by_cases e : t = j
                      · rw [e]
                        have h2 := HUB.out
                        rw [← HP.out] at h2
                        rw [← h2]; rfl
                      · exact HNO.out t (by omega)⟩
                  case measure => simp [intOf]; omega
              · obtain rfl : j = m := by omega
                go_wp2_with fail
                go_roundw
                case rel => exact ⟨k + 1, by omega, by go_num, HBj, HBPj, by
                  rw [HTK.out, ← markF_ring (x := ((q : Int), (j : Int))) (n := j) rfl]
                  exact HBUj, by
                  unfold ringsK
                  rw [HRK.out, HX.out, HRI.out]
                  have hc : (rg.take k).any (clash ((q : Int), (j : Int))) = false := by
                    rw [Bool.eq_false_iff]
                    intro h
                    obtain ⟨t, ht, hu⟩ := (clash_used (by have := ringIn_iff.1 HRI.out; simp only at this ⊢; omega) fun y hy => by
                      have := ringIn_iff.1 (ringsK_all HRK.out (by rw [HRN.out]; omega) y hy)
                      omega).1 h
                    simp only at ht
                    have := HNO.out t (by omega)
                    rw [this] at hu; cases hu
                  rw [hc]
                  exact Lib.hid rfl⟩
                case measure => simp [intOf]; omega
          · obtain rfl : k = rn := by omega
            have HBU1 : Hid (BoxB wr gu (markF rg 0 0)) := by
              have h := HBU.out
              rw [List.take_of_length_le (by rw [HRN.out]; exact Nat.le_refl _)] at h
              exact Lib.hid h
            have HRB : Hid (ringsB PD.rg = true) := by
              rw [HRG.out]
              unfold ringsB
              rw [HRN.out, HRK.out, decide_eq_true h8]
              exact Lib.hid rfl
            have hk3 := HBP.out
            rw [← HL.out] at hk3
            obtain ⟨⟨x0, x1, x2, x3⟩, ⟨x4, x5, x6, x7⟩, x8, x9⟩ := hk3.c10
            clear hk3 HBU hlt
            by_cases hc1 : cn < 1
            · have g1 : decide ((cn : Int) < 1) = true := decide_eq_true (by omega)
              go_wp2_with fail
              go_ret2
              exact RetChk.mk (chk_many HV1.out HRB.out (by rw [HCO.out, HCN.out]; exact inB_no.2 (by omega))) HB.out
            have g1 : decide ((cn : Int) < 1) = false := decide_eq_false (by omega)
            by_cases hc2 : 512 < cn
            · have g2 : decide ((512 : Int) < (cn : Int)) = true := decide_eq_true (by omega)
              go_wp2_with fail
              go_ret2
              exact RetChk.mk (chk_many HV1.out HRB.out (by rw [HCO.out, HCN.out]; exact inB_no.2 (by omega))) HB.out
            have g2 : decide ((512 : Int) < (cn : Int)) = false := decide_eq_false (by omega)
            have HIN : Hid (inB PD.code.length 1 512 = true) := by rw [HCO.out, HCN.out]; exact Lib.hid (inB_iff.2 (by omega))
            go_wp2_with fail
            clear g1 g2 x0 x1 x2 x3 x4 x5 x6 x7 x8 x9
            go_loopw [84] (fun x wx => ckC w gp gu cn L rg PD x wx) (fun x _ => cn - (intOf x).toNat)
            case atStart => exact ⟨0, Nat.zero_le _, rfl, HB, HBP, HBU1, Lib.hid fun j hj => by omega⟩
            case round =>
              obtain ⟨j, hj, rfl, HBj, HBPj, HBUj, HGO⟩ := hrel
              by_cases hjc : j < cn
              · obtain ⟨i, hi⟩ : ∃ i, code[j]? = some i := ⟨_, List.getElem?_eq_getElem (by rw [HCN.out]; exact hjc)⟩
                obtain ⟨ad, hCA, hs, hb, hr, hok⟩ := (HCA.out.grow HBj.out) j i hi
                subst hCA
                have HGI : Hid (PD.code.getD j Ins.zero = i) := by rw [HCO.out, List.getD_eq_getElem?_getD, hi]; exact Lib.hid rfl
                have HS := Lib.hid hs
                have HR := Lib.hid hr
                have c1' : (0 : Int) ≤ (j : Int) := by omega
                have c2' : (j : Int) < (cn : Int) := by omega
                have wj : IntKind.i64.wrap ((j : Int) + 1) = ((j + 1 : Nat) : Int) := (IntWalk.i64_in _ (by omega)).trans (by omega)
                have wcn : IntKind.i64.wrap ((cn : Int) - 1) = ((cn - 1 : Nat) : Int) := (IntWalk.i64_in _ (by omega)).trans (by omega)
                clear hi hs hb hr hok
                go_upto_region 24 with (first
                  | ((with_reducible show wpList _ _ _ (Oper.mk _ (.load 48 _) _ _ _ _ :: _) _ _); refine ld_insA HS.out HR.out rfl _ rfl rfl ?_)
                  | ((with_reducible show wpList _ _ _ (Oper.mk _ (.store 48 _ _) _ _ _ _ :: _) _ _); refine st_ins (w := wr.alloc (.cells Ins.zero.cells.toArray 48)) (g := wr.heap.size) (i := Ins.zero) (j := i) (Box.new rfl) rfl _ _ rfl rfl rfl ?_; intro W2 b2 p2))
                have hb2 := put_facts ((Below.refl wr.heap.size wr).alloc (Nat.le_refl _) (.cells Ins.zero.cells.toArray 48)) (Nat.le_refl _) p2
                have HB2 := Lib.hid (below_then HBj.out hb2)
                have HBP2 := Lib.hid (HBPj.out.keep hb2)
                have HBU2 := Lib.hid (HBUj.out.keep hb2)
                have HBI2 := Lib.hid b2
                clear hb2 b2 p2 HR HS
                generalize wr.heap.size = gi at HBI2 ⊢
                have hk3 := HBP2.out
                rw [← HL.out] at hk3
                obtain ⟨⟨x0, x1, x2, x3⟩, ⟨x4, x5, x6, x7⟩, x8, x9⟩ := hk3.c10
                clear hk3
                obtain ⟨bl, hbl⟩ : ∃ c, decide (j = cn - 1) = c := ⟨_, rfl⟩
                have HLAST : Hid (decide (j + 1 = PD.code.length) = bl) := by
                  rw [HCO.out, HCN.out, ← hbl]
                  exact Lib.hid (decide_eq_decide.2 (by omega))
                have hbl2 : decide ((j : Int) = ((cn - 1 : Nat) : Int)) = bl := by rw [← hbl]; exact decide_eq_decide.2 (by omega)
                have hbl3 : ((j : Int) == ((cn - 1 : Nat) : Int)) = bl := hbl2
                obtain ⟨cn1, hcn1⟩ : ∃ x : Nat, cn - 1 = x := ⟨_, rfl⟩
                rw [hcn1] at wcn hbl hbl2 hbl3
                have hbl4 : (j == cn1) = bl := hbl
                clear hcn1
                go_upto_region 25 with fail
                obtain ⟨s, hs⟩ : ∃ s, suitB PD i = s := ⟨_, rfl⟩
                obtain ⟨b0, hb0⟩ : ∃ c, decide (i.op = 0) = c := ⟨_, rfl⟩
                have hb1 : (i.op == 0) = b0 := hb0
                have HGD : Hid (goodAt PD j = (s && (b0 == bl))) := by
                  unfold goodAt
                  rw [HGI.out, hs, hb0, HLAST.out]
                  exact Lib.hid rfl
                have CS : Hid (∀ n : Ext W2, Calls Tryd.prog 47 #[.agg #[.int .i64 d0, .int .i64 d1, .int .i64 d2, .int .i64 d3, .int .i64 c0, .int .i64 c1, .int .i64 c2, .int .i64 c3, .slice RA k rc, .slice (some ad) cn cc], .slice (some ⟨gu, 0, none⟩) 128 128, i.v] n.to fun e w' => e = .returned (.bool s) ∧ Below n.to.heap.size n.to w') := Lib.hid fun n => by
                  have hw1 := HB2.out.trans (n.below.mono HB2.out.size)
                  have h := pr_suits ⟨⟨d0, d1, d2, d3, c0, c1, c2, c3, rg, code⟩, RA, some ad, rc, cc⟩ gu i n.to (HF.out.grow hw1) (HRA.out.grow hw1) (by simp only; rw [HRN.out]; exact h8) HC.out (Nat.lt_of_lt_of_le HBU2.out.1 n.below.size) (fun m hm => Box.ext HBU2.out (by rw [List.getElem?_map, used_all hm]; rfl) n) s (by rw [← hs, HPD.out])
                  unfold PrgA.v PrgA.lst at h
                  simp only [HRN.out, HCN.out] at h
                  exact h
                have e5 := HBI2.out.ext (k := 0) (v := .int .i64 i.op) rfl
                have hL9 : L.length = 10 := by rw [← HL.out]; rfl
                have HL9 := Lib.hid hL9
                clear hs hb0 hL9 hbl hbl2 hbl3 hbl4 wcn
                have HBPQ := HBP2
                rw [← HL.out] at HBPQ
                cases s with
                | false =>
                  refine wp_region_ext (by kernel_rfl) (by kernel_rfl) ?_
                  repeat (first
                    | ((with_reducible show wpQuiet _ _ _ _ (Oper.mk (some 95) (.load 30 _) _ _ _ _ :: _) _); refine qld_prg HBPQ.out rfl rfl (Operand.tmp 1) rfl rfl ?_; simp [Act.put])
                    | ((with_reducible show wpQuiet _ _ _ _ (Oper.mk (some 97) (.load 48 _) _ _ _ _ :: _) _); refine qld_insB HBI2.out rfl (Operand.tmp 9) rfl rfl ?_; simp [Act.put])
                    | (go_big_quiet_step (first | (go_at_call 47; exact ext_below (CS.out _)))))
                  refine wpQuiet_nil ?_
                  rintro ⟨w3, hb3⟩
                  dsimp only
                  go_wp2_with fail
                  go_ret2
                  exact RetChk.mk (chk_at HV1.out HRB.out HIN.out (k := j) (by rw [HCO.out, HCN.out]; exact hjc) HGO.out HGD.out) (below_then HB2.out hb3)
                | true =>
                  have hop : ∀ c : Bool, (i.op == 0) = c → True := fun _ _ => trivial
                  clear hop
                  cases b0 with
                  | true =>
                    cases bl with
                    | true =>
                      refine wp_region_ext (by kernel_rfl) (by kernel_rfl) ?_
                      repeat (first
                        | ((with_reducible show wpQuiet _ _ _ _ (Oper.mk (some 95) (.load 30 _) _ _ _ _ :: _) _); refine qld_prg HBPQ.out rfl rfl (Operand.tmp 1) rfl rfl ?_; simp [Act.put])
                        | ((with_reducible show wpQuiet _ _ _ _ (Oper.mk (some 97) (.load 48 _) _ _ _ _ :: _) _); refine qld_insB HBI2.out rfl (Operand.tmp 9) rfl rfl ?_; simp [Act.put])
                        | (go_big_quiet_step (first | (go_at_call 47; exact ext_below (CS.out _)))))
                      refine wpQuiet_nil ?_
                      rintro ⟨w3, hb3⟩
                      dsimp only
                      go_wp2_with fail
                      go_roundw
                      case rel => exact ⟨j + 1, by omega, by go_num, Lib.hid (below_then HB2.out hb3), Lib.hid (HBP2.out.keep hb3), Lib.hid (HBU2.out.keep hb3), Lib.hid fun t ht => by
                        by_cases e : t = j
                        · rw [e]; exact HGD.out
                        · exact HGO.out t (by omega)⟩
                      case measure => simp [intOf]; omega
                    | false =>
                      refine wp_region_ext (by kernel_rfl) (by kernel_rfl) ?_
                      repeat (first
                        | ((with_reducible show wpQuiet _ _ _ _ (Oper.mk (some 95) (.load 30 _) _ _ _ _ :: _) _); refine qld_prg HBPQ.out rfl rfl (Operand.tmp 1) rfl rfl ?_; simp [Act.put])
                        | ((with_reducible show wpQuiet _ _ _ _ (Oper.mk (some 97) (.load 48 _) _ _ _ _ :: _) _); refine qld_insB HBI2.out rfl (Operand.tmp 9) rfl rfl ?_; simp [Act.put])
                        | (go_big_quiet_step (first | (go_at_call 47; exact ext_below (CS.out _)))))
                      refine wpQuiet_nil ?_
                      rintro ⟨w3, hb3⟩
                      dsimp only
                      go_wp2_with fail
                      go_ret2
                      exact RetChk.mk (chk_at HV1.out HRB.out HIN.out (k := j) (by rw [HCO.out, HCN.out]; exact hjc) HGO.out HGD.out) (below_then HB2.out hb3)
                  | false =>
                    cases bl with
                    | true =>
                      refine wp_region_ext (by kernel_rfl) (by kernel_rfl) ?_
                      repeat (first
                        | ((with_reducible show wpQuiet _ _ _ _ (Oper.mk (some 95) (.load 30 _) _ _ _ _ :: _) _); refine qld_prg HBPQ.out rfl rfl (Operand.tmp 1) rfl rfl ?_; simp [Act.put])
                        | ((with_reducible show wpQuiet _ _ _ _ (Oper.mk (some 97) (.load 48 _) _ _ _ _ :: _) _); refine qld_insB HBI2.out rfl (Operand.tmp 9) rfl rfl ?_; simp [Act.put])
                        | (go_big_quiet_step (first | (go_at_call 47; exact ext_below (CS.out _)))))
                      refine wpQuiet_nil ?_
                      rintro ⟨w3, hb3⟩
                      dsimp only
                      go_wp2_with fail
                      go_ret2
                      exact RetChk.mk (chk_at HV1.out HRB.out HIN.out (k := j) (by rw [HCO.out, HCN.out]; exact hjc) HGO.out HGD.out) (below_then HB2.out hb3)
                    | false =>
                      refine wp_region_ext (by kernel_rfl) (by kernel_rfl) ?_
                      repeat (first
                        | ((with_reducible show wpQuiet _ _ _ _ (Oper.mk (some 95) (.load 30 _) _ _ _ _ :: _) _); refine qld_prg HBPQ.out rfl rfl (Operand.tmp 1) rfl rfl ?_; simp [Act.put])
                        | ((with_reducible show wpQuiet _ _ _ _ (Oper.mk (some 97) (.load 48 _) _ _ _ _ :: _) _); refine qld_insB HBI2.out rfl (Operand.tmp 9) rfl rfl ?_; simp [Act.put])
                        | (go_big_quiet_step (first | (go_at_call 47; exact ext_below (CS.out _)))))
                      refine wpQuiet_nil ?_
                      rintro ⟨w3, hb3⟩
                      dsimp only
                      go_wp2_with fail
                      go_roundw
                      case rel => exact ⟨j + 1, by omega, by go_num, Lib.hid (below_then HB2.out hb3), Lib.hid (HBP2.out.keep hb3), Lib.hid (HBU2.out.keep hb3), Lib.hid fun t ht => by
                        by_cases e : t = j
                        · rw [e]; exact HGD.out
                        · exact HGO.out t (by omega)⟩
                      case measure => simp [intOf]; omega
              · obtain rfl : j = cn := by omega
                go_wp2_with fail
                go_ret2
                exact RetChk.mk (chk_ok HV1.out HRB.out HIN.out (by rw [HCO.out, HCN.out]; exact HGO.out)) HBj.out
      · have h81 : (8 : Int) < (rn : Int) := by omega
        go_wp2_with fail
        go_ret2
        exact RetChk.mk (chk_rings HV1.out (by rw [HRG.out]; unfold ringsB; rw [HRN.out, decide_eq_false h8]; rfl)) HB2.out
end Go.Proofs.YtpmbgcfnehplaaaDoor
end
section
/- Buffers in the reference of the processor: rings, inRing. -/
set_option linter.unusedVariables false
set_option linter.unusedSimpArgs false
namespace Go.Proofs.YtpmbgcfnehplaaaDoor
open Go.RowKit

theorem ring_ext {w : World} {A : Option Addr} {l : List (Int × Int)} (h : RingsAt w A l) {k : Nat} {x : Int × Int} (hk : l[k]? = some x) :
    ∃ ad, A = some ad ∧ (∀ n : Ext w, n.to.cell? (ad.add (k * 2)) = some (.int .i64 x.1)) ∧ (∀ n : Ext w, n.to.cell? ⟨(ad.add (k * 2)).block, (ad.add (k * 2)).off + 1, none⟩ = some (.int .i64 x.2)) ∧ I64 x.1 ∧ I64 x.2 := by
  obtain ⟨ad, e, hs, hb, hr, hok⟩ := h k x hk
  obtain ⟨r0, r1⟩ := ring_cells hs hr
  exact ⟨ad, e, fun n => (n.below.cell (p := ad.add (k * 2)) (by rw [block_add]; exact hb)).trans r0, fun n => (n.below.cell (p := ⟨(ad.add (k * 2)).block, (ad.add (k * 2)).off + 1, none⟩) (by rw [block_add]; exact hb)).trans r1, hok.1, hok.2⟩
theorem in_is {v lo hi : Int} {c : Bool} (h : inB v lo hi = c) (w : World) : Calls Tryd.prog 39 #[.int .i64 v, .int .i64 lo, .int .i64 hi] w fun e w' => e = .returned (.bool c) ∧ w = w' := by
  rw [← h]; exact rf_In v lo hi w
theorem ringIn_and (x : Int × Int) : ringIn x = (inB x.1 0 127 && inB x.2 1 (128 - x.1)) := by
  unfold ringIn inB
  rw [Bool.eq_iff_iff]
  simp only [decide_eq_true_eq, Bool.and_eq_true]
  omega
set_option maxRecDepth 100000 in
set_option maxHeartbeats 4000000 in
theorem r38_rings (A : Option Addr) (n c : Nat) (l : List (Int × Int)) (w : World) (h : RingsAt w A l) (hn : l.length = n) (h9 : n ≤ 9223372036854775807) : Calls Tryd.prog 48 #[.slice A n c] w fun e w' => e = .returned (.bool (ringsB l)) ∧ Below w.heap.size w w' := by
  have HI := Lib.hid h
  have HN := Lib.hid hn
  obtain ⟨R, hR⟩ : ∃ R, ringsB l = R := ⟨_, rfl⟩
  rw [hR]
  have HR := Lib.hid hR
  clear h hn hR
  by_cases h8 : n ≤ 8
  · have h81 : ¬ (8 : Int) < (n : Int) := by omega
    have HB8 : Hid (ringsK l n = R) := by
      rw [← HR.out]; unfold ringsB
      rw [HN.out, decide_eq_true h8, Bool.true_and]
      exact Lib.hid rfl
    have HNO : Hid (∀ k, k ≤ n → ringsK l k = false → R = false) := Lib.hid fun k hk hf => by
      rw [← HR.out]; exact ringsB_no (by rw [HN.out]; exact hk) hf
    go_enter Tryd.func48, Tryd.ntmps48
    go_wp2_with fail
    go_loopw [3] (fun x wr => ∃ k : Nat, k ≤ n ∧ x = .int .i64 k ∧ Hid (ringsK l k = true) ∧ Hid (Below w.heap.size w wr)) (fun x _ => n - (intOf x).toNat)
    case atStart => exact ⟨0, Nat.zero_le _, rfl, Lib.hid rfl, Lib.hid (Below.refl _ _)⟩
    case round =>
      obtain ⟨k, hk, rfl, HK, HB⟩ := hrel
      by_cases hlt : k < n
      · obtain ⟨⟨xb, xl⟩, hx⟩ : ∃ x, l[k]? = some x := ⟨_, List.getElem?_eq_getElem (by rw [HN.out]; exact hlt)⟩
        obtain ⟨ad, hA, y1, y2, ok1, ok2⟩ := ring_ext (HI.out.grow HB.out) hx
        subst hA
        simp only at y1 y2 ok1 ok2
        obtain ⟨i1, i2⟩ := ok1
        obtain ⟨i3, i4⟩ := ok2
        have HX : Hid (l.getD k (0, 0) = (xb, xl)) := by rw [List.getD_eq_getElem?_getD, hx]; exact Lib.hid rfl
        have HTK := Lib.hid (take_snoc' hx)
        clear hx
        have q1 : (0 : Int) ≤ (k : Int) := by omega
        have q2 : (k : Int) < (n : Int) := by omega
        have q3 : k < n := hlt
        have wk : IntKind.i64.wrap ((k : Int) + 1) = ((k + 1 : Nat) : Int) := (IntWalk.i64_in _ (by omega)).trans (by omega)
        obtain ⟨b1, hb1⟩ : ∃ c, inB xb 0 127 = c := ⟨_, rfl⟩
        have HRI := ringIn_and (xb, xl)
        simp only at HRI
        rw [hb1] at HRI
        have H1 := Lib.hid hb1
        have HBW := Lib.hid HB.out
        cases b1 with
        | false =>
          have HBAD : Hid (R = false) := HNO.out (k + 1) (by omega) (by unfold ringsK; rw [HX.out, HRI]; simp)
          clear hb1 HRI
          go_upto_region 6 with fail
          refine wp_region_ext (by kernel_rfl) (by kernel_rfl) ?_
          repeat (go_big_quiet_step (first | (go_at_call 39; exact ext_same (in_is H1.out _))))
          refine wpQuiet_nil ?_
          rintro w3 ⟨⟨_, hb3⟩, rfl⟩
          go_wp2_with fail
          go_ret
          exact ⟨by rw [HBAD.out]; rfl, below_then HB.out hb3⟩
        | true =>
          have hx2 := inB_iff.1 hb1
          have ws : IntKind.i64.wrap (128 - xb) = 128 - xb := IntWalk.i64_in _ (by omega)
          obtain ⟨b2, hb2⟩ : ∃ c, inB xl 1 (128 - xb) = c := ⟨_, rfl⟩
          rw [hb2] at HRI
          have H2 := Lib.hid hb2
          cases b2 with
          | false =>
            have HBAD : Hid (R = false) := HNO.out (k + 1) (by omega) (by unfold ringsK; rw [HX.out, HRI]; simp)
            clear hb1 HRI hb2
            go_upto_region 6 with fail
            refine wp_region_ext (by kernel_rfl) (by kernel_rfl) ?_
            repeat (go_big_quiet_step ((go_at_call 39; (first | (with_reducible exact ext_same (in_is H1.out _)) | (with_reducible exact ext_same (in_is H2.out _))))))
            refine wpQuiet_nil ?_
            rintro w3 ⟨⟨_, hb3⟩, rfl⟩
            go_wp2_with fail
            go_ret
            exact ⟨by rw [HBAD.out]; rfl, below_then HB.out hb3⟩
          | true =>
            have HRI1 : Hid (ringIn (xb, xl) = true) := Lib.hid HRI
            have hl2 := inB_iff.1 hb2
            clear hb1 HRI hb2
            go_upto_region 6 with fail
            refine wp_region_ext (by kernel_rfl) (by kernel_rfl) ?_
            repeat (go_big_quiet_step ((go_at_call 39; (first | (with_reducible exact ext_same (in_is H1.out _)) | (with_reducible exact ext_same (in_is H2.out _))))))
            refine wpQuiet_nil ?_
            rintro w3 ⟨⟨_, hb3⟩, rfl⟩
            have HB3 := Lib.hid (below_then HB.out hb3)
            clear hb3 y1 y2 H1 H2 ws
            go_wp2_with fail
            go_loopw [4] (fun x wx => ∃ j : Nat, j ≤ k ∧ x = .int .i64 j ∧ Hid ((l.take j).any (clash (xb, xl)) = false) ∧ Hid (Below w.heap.size w wx)) (fun x _ => k - (intOf x).toNat)
            case atStart => exact ⟨0, Nat.zero_le _, rfl, Lib.hid rfl, HB3⟩
            case round =>
              obtain ⟨j, hj, rfl, HC, HBj⟩ := hrel
              by_cases hjk : j < k
              · obtain ⟨⟨zb, zl⟩, hz⟩ : ∃ x, l[j]? = some x := ⟨_, List.getElem?_eq_getElem (by rw [HN.out]; omega)⟩
                obtain ⟨x', hx'⟩ : ∃ x, l[k]? = some x := ⟨_, List.getElem?_eq_getElem (by rw [HN.out]; omega)⟩
                have hxx : x' = (xb, xl) := by
                  have h := HX.out
                  rw [List.getD_eq_getElem?_getD, hx'] at h
                  exact h
                subst hxx
                obtain ⟨ad1, hA1, y1, y2, -, -⟩ := ring_ext (HI.out.grow HBj.out) hx'
                injection hA1 with hA1
                subst hA1
                obtain ⟨ad2, hA2, z1, z2, -, -⟩ := ring_ext (HI.out.grow HBj.out) hz
                injection hA2 with hA2
                subst hA2
                simp only at y1 y2 z1 z2
                have HTJ := Lib.hid (take_snoc' hz)
                have hzi : ringIn (zb, zl) = true := ringsK_all HK.out (by rw [HN.out]; omega) _ (List.mem_of_getElem? (i := j) (by rw [List.getElem?_take, if_pos hjk]; exact hz))
                have hzr := ringIn_iff.1 hzi
                simp only at hzr
                have hxr := ringIn_iff.1 HRI1.out
                simp only at hxr
                clear hx' hz hzi
                have s1 : IntKind.i64.wrap (zb + zl) = zb + zl := IntWalk.i64_in _ (by omega)
                have s2 : IntKind.i64.wrap (xb + xl) = xb + xl := IntWalk.i64_in _ (by omega)
                have p1 : (0 : Int) ≤ (j : Int) := by omega
                have p2 : (j : Int) < (n : Int) := by omega
                have p3 : (j : Int) < (k : Int) := by omega
                have wj : IntKind.i64.wrap ((j : Int) + 1) = ((j + 1 : Nat) : Int) := (IntWalk.i64_in _ (by omega)).trans (by omega)
                by_cases hc1 : xb < zb + zl
                · have g1 : decide (xb < zb + zl) = true := decide_eq_true hc1
                  by_cases hc2 : zb < xb + xl
                  · have g2 : decide (zb < xb + xl) = true := decide_eq_true hc2
                    have HBAD : Hid (R = false) := HNO.out (k + 1) (by omega) (by
                      unfold ringsK
                      rw [HX.out]
                      have : (l.take k).any (clash (xb, xl)) = true := by
                        refine List.any_eq_true.2 ⟨(zb, zl), ?_, clash_iff.2 ⟨hc1, hc2⟩⟩
                        have h := HTJ.out
                        have h2 : (zb, zl) ∈ l.take (j + 1) := by rw [h]; simp
                        exact (List.take_subset_take_left l (by omega)) h2
                      rw [this]; simp)
                    clear hc1 hc2
                    go_upto_region 11 with fail
                    refine wp_region_ext (by kernel_rfl) (by kernel_rfl) ?_
                    repeat (go_big_quiet_step (fail))
                    refine wpQuiet_nil ?_
                    rintro w4 ⟨⟨_, hb4⟩, rfl⟩
                    go_wp2_with fail
                    go_ret
                    exact ⟨by rw [HBAD.out]; rfl, below_then HBj.out hb4⟩
                  · have g2 : decide (zb < xb + xl) = false := decide_eq_false hc2
                    have HC2 := Lib.hid hc2
                    clear hc1 hc2
                    go_upto_region 11 with fail
                    refine wp_region_ext (by kernel_rfl) (by kernel_rfl) ?_
                    repeat (go_big_quiet_step (fail))
                    refine wpQuiet_nil ?_
                    rintro w4 ⟨⟨_, hb4⟩, rfl⟩
                    go_wp2_with fail
                    go_roundw
                    case rel => exact ⟨j + 1, by omega, by go_num, by
                      rw [HTJ.out, List.any_append, HC.out, List.any_cons, List.any_nil]
                      have : clash (xb, xl) (zb, zl) = false := by unfold clash; exact decide_eq_false fun h => HC2.out h.2
                      rw [this]
                      exact Lib.hid rfl, Lib.hid (below_then HBj.out hb4)⟩
                    case measure => simp [intOf]; omega
                · have g1 : decide (xb < zb + zl) = false := decide_eq_false hc1
                  have HC2 := Lib.hid hc1
                  clear hc1
                  go_upto_region 11 with fail
                  refine wp_region_ext (by kernel_rfl) (by kernel_rfl) ?_
                  repeat (go_big_quiet_step (fail))
                  refine wpQuiet_nil ?_
                  rintro w4 ⟨⟨_, hb4⟩, rfl⟩
                  go_wp2_with fail
                  go_roundw
                  case rel => exact ⟨j + 1, by omega, by go_num, by
                    rw [HTJ.out, List.any_append, HC.out, List.any_cons, List.any_nil]
                    have : clash (xb, xl) (zb, zl) = false := by unfold clash; exact decide_eq_false fun h => HC2.out h.1
                    rw [this]
                    exact Lib.hid rfl, Lib.hid (below_then HBj.out hb4)⟩
                  case measure => simp [intOf]; omega
              · obtain rfl : j = k := by omega
                go_wp2_with fail
                go_roundw
                case rel => exact ⟨j + 1, by omega, by go_num, by
                  unfold ringsK
                  rw [HK.out, HX.out, HRI1.out, HC.out]
                  exact Lib.hid rfl, HBj⟩
                case measure => simp [intOf]; omega
      · obtain rfl : k = n := by omega
        go_wp2_with fail
        go_ret
        exact ⟨by rw [← HB8.out, HK.out]; rfl, HB.out⟩
  · have h81 : (8 : Int) < (n : Int) := by omega
    have HBAD : Hid (R = false) := by
      rw [← HR.out]; unfold ringsB
      rw [HN.out, decide_eq_false h8]
      exact Lib.hid rfl
    go_enter Tryd.func48, Tryd.ntmps48
    go_wp2_with fail
    go_ret
    exact ⟨by rw [HBAD.out]; rfl, Below.refl _ _⟩
set_option maxRecDepth 100000 in
set_option maxHeartbeats 4000000 in
theorem r38_inRing (d0 d1 d2 d3 c0 c1 c2 c3 : Int) (A : Option Addr) (n c : Nat) (V : Value) (l : List (Int × Int)) (m : Int) (w : World) (h : RingsAt w A l) (hn : l.length = n) (h8 : n ≤ 8) (hr : ∀ x ∈ l, ringIn x = true) :
    Calls Tryd.prog 62 #[.agg #[.int .i64 d0, .int .i64 d1, .int .i64 d2, .int .i64 d3, .int .i64 c0, .int .i64 c1, .int .i64 c2, .int .i64 c3, .slice A n c, V], .int .i64 m] w fun e w' => e = .returned (.bool (usdB l m)) ∧ Below w.heap.size w w' := by
  have HI := Lib.hid h
  have HN := Lib.hid hn
  have HRI := Lib.hid hr
  obtain ⟨U, hU⟩ : ∃ U, usdB l m = U := ⟨_, rfl⟩
  rw [hU]
  have HU := Lib.hid hU
  clear h hn hr hU
  go_enter Tryd.func62, Tryd.ntmps62
  go_upto_region 1 with fail
  obtain ⟨bp, hb0⟩ := entryP w [.int .i64 d0, .int .i64 d1, .int .i64 d2, .int .i64 d3, .int .i64 c0, .int .i64 c1, .int .i64 c2, .int .i64 c3, .slice A n c, V] _ rfl
  change Code.wp _ _ _ _ (w.alloc (.cells [.int .i64 d0, .int .i64 d1, .int .i64 d2, .int .i64 d3, .int .i64 c0, .int .i64 c1, .int .i64 c2, .int .i64 c3, .slice A n c, V].toArray 30))
  generalize (w.alloc (.cells [.int .i64 d0, .int .i64 d1, .int .i64 d2, .int .i64 d3, .int .i64 c0, .int .i64 c1, .int .i64 c2, .int .i64 c3, .slice A n c, V].toArray 30)) = W0 at bp hb0 ⊢
  have HB0 := Lib.hid hb0
  have HBP0 := Lib.hid bp
  clear hb0 bp
  generalize hgp : w.heap.size = gp at HBP0 ⊢
  have HGP := Lib.hid hgp
  obtain ⟨L, hL⟩ : ∃ L : List Value, [.int .i64 d0, .int .i64 d1, .int .i64 d2, .int .i64 d3, .int .i64 c0, .int .i64 c1, .int .i64 c2, .int .i64 c3, .slice A n c, V] = L := ⟨_, rfl⟩
  rw [hL] at HBP0
  have HL8 : Hid (L[8]? = some (.slice A n c)) := by rw [← hL]; exact Lib.hid rfl
  clear hL hgp
  go_wp2_with fail
  go_loopw [5] (fun x wr => ∃ k : Nat, k ≤ n ∧ x = .int .i64 k ∧ Hid (usdB (l.take k) m = false) ∧ Hid (Box wr gp L) ∧ Hid (Below w.heap.size w wr)) (fun x _ => n - (intOf x).toNat)
  case atStart => exact ⟨0, Nat.zero_le _, rfl, Lib.hid rfl, HBP0, HB0⟩
  case round =>
    obtain ⟨k, hk, rfl, HK, HBP, HB⟩ := hrel
    have x8 : wr.cell? ⟨gp, 8, none⟩ = some (.slice A n c) := (HBP.out.2.1 8).trans HL8.out
    by_cases hlt : k < n
    · obtain ⟨⟨xb, xl⟩, hx⟩ : ∃ x, l[k]? = some x := ⟨_, List.getElem?_eq_getElem (by rw [HN.out]; exact hlt)⟩
      obtain ⟨ad, hA, y1, y2, -, -⟩ := ring_ext (HI.out.grow HB.out) hx
      subst hA
      simp only at y1 y2
      have hxr := ringIn_iff.1 (HRI.out _ (List.mem_of_getElem? hx))
      simp only at hxr
      have HTK := Lib.hid (take_snoc' hx)
      have e8 := HBP.out.ext HL8.out
      have HMEM := Lib.hid (List.mem_of_getElem? hx)
      clear hx
      have q1 : (0 : Int) ≤ (k : Int) := by omega
      have q2 : (k : Int) < (n : Int) := by omega
      have wk : IntKind.i64.wrap ((k : Int) + 1) = ((k + 1 : Nat) : Int) := (IntWalk.i64_in _ (by omega)).trans (by omega)
      have s1 : IntKind.i64.wrap (xb + xl) = xb + xl := IntWalk.i64_in _ (by omega)
      have s2 : IntKind.i64.wrap (xb + xl - 1) = xb + xl - 1 := IntWalk.i64_in _ (by omega)
      obtain ⟨b1, hb1⟩ : ∃ c, inB m xb (xb + xl - 1) = c := ⟨_, rfl⟩
      have HRV : Hid (inR m (xb, xl) = b1) := by
        rw [← hb1]
        unfold inR inB
        refine Lib.hid ?_
        rw [Bool.eq_iff_iff]
        simp only [decide_eq_true_eq, Bool.and_eq_true]
        omega
      have H1 := Lib.hid hb1
      clear hb1
      go_upto_region 4 with fail
      refine wp_region_ext (by kernel_rfl) (by kernel_rfl) ?_
      repeat (go_big_quiet_step (first | (go_at_call 39; exact ext_same (in_is H1.out _))))
      refine wpQuiet_nil ?_
      rintro w3 ⟨⟨_, hb3⟩, rfl⟩
      cases b1 with
      | true =>
        go_wp2_with fail
        go_ret
        exact ⟨by rw [← HU.out]; unfold usdB; rw [List.any_eq_true.2 ⟨_, HMEM.out, HRV.out⟩]; rfl, below_then HB.out hb3⟩
      | false =>
        go_wp2_with fail
        go_roundw
        case rel => exact ⟨k + 1, by omega, by go_num, by
          unfold usdB
          rw [HTK.out, List.any_append, List.any_cons, List.any_nil, HRV.out]
          have h := HK.out
          unfold usdB at h
          rw [h]
          exact Lib.hid rfl, Lib.hid (HBP.out.keep hb3), Lib.hid (below_then HB.out hb3)⟩
        case measure => simp [intOf]; omega
    · obtain rfl : k = n := by omega
      go_wp2_with fail
      go_ret
      exact ⟨by rw [← HU.out]; have h := HK.out; rw [List.take_of_length_le (by rw [HN.out]; exact Nat.le_refl _)] at h; rw [h]; rfl, HB.out⟩
end Go.Proofs.YtpmbgcfnehplaaaDoor
end
section
/- fits of the reference of the processor. Printed by gen_s7.py. -/
set_option linter.unusedVariables false
set_option linter.unusedSimpArgs false
namespace Go.Proofs.YtpmbgcfnehplaaaDoor
open Go.RowKit

theorem rfits_is {b f r o v : Int} {c : Bool} (h : fitsW b f r o v = c) (w : World) : Calls Tryd.prog 63 #[wordV b f r o, .int .i64 v] w fun e w' => e = .returned (.bool c) ∧ Below w.heap.size w w' := by
  rw [← h]; exact rf_Fits _ _ _ _ _ w
theorem ld_prg {ops : Array Oper} {rest : List Oper} {o : Oper} {a : Act} {Q : Exit → Act → World → Prop} {w : World} {g : Nat} {L : List Value} (hb : Box w g L) (hL : L.length = 10) (hgd : o.guard = none) (x : Operand) (ho : o.op = .load 30 x) (hx : a.eval x = .pointer (some ⟨g, 0, none⟩)) (h : wpList Tryd.prog ops Q rest (a.put o.dst (.agg L.toArray)) w) : wpList Tryd.prog ops Q (o :: rest) a w := by
  obtain ⟨d, h1, h2⟩ := row_prgS
  exact wp_ld hgd _ x ho g 0 hx hb L (fun j v hj => by rw [Nat.zero_add]; exact hj) d h1 h2 (by rw [hL]; exact size_prgS) h
set_option maxRecDepth 100000 in
set_option maxHeartbeats 4000000 in
theorem r38_fits (u : PrgA) (i : Ins) (w : World) (hi : i.formed = true) (hp : RingsAt w u.RA u.d.rg) (hl : u.d.rg.length ≤ 8) (hri : ∀ x ∈ u.d.rg, ringIn x = true) (hw : okW u.d.c0 u.d.c1 u.d.c2 u.d.c3 = true) (r : Bool) (hr : fitI u.d i = r) :
    Calls Tryd.prog 50 #[u.v, i.v] w fun e w' => e = .returned (.bool r) ∧ Below w.heap.size w w' := by
  obtain ⟨⟨d0, d1, d2, d3, c0, c1, c2, c3, rg, code⟩, RA, CA, rc, cc⟩ := u
  obtain ⟨op, a, b, imm⟩ := i
  simp only at hp hl hw hri
  obtain ⟨rn, hrn⟩ : ∃ n, rg.length = n := ⟨_, rfl⟩
  obtain ⟨cn, hcn⟩ : ∃ n, code.length = n := ⟨_, rfl⟩
  have hgoal : ∀ {R : Ending → World → Prop}, Calls Tryd.prog 50 #[.agg #[.int .i64 d0, .int .i64 d1, .int .i64 d2, .int .i64 d3, .int .i64 c0, .int .i64 c1, .int .i64 c2, .int .i64 c3, .slice RA rn rc, .slice CA cn cc], .agg #[.int .i64 op, .int .i64 a, .int .i64 b, .int .i64 imm]] w R →
      Calls Tryd.prog 50 #[PrgA.v ⟨⟨d0, d1, d2, d3, c0, c1, c2, c3, rg, code⟩, RA, CA, rc, cc⟩, Ins.v ⟨op, a, b, imm⟩] w R := fun h => by
    unfold PrgA.v PrgA.lst
    simp only [hrn, hcn]
    exact h
  refine hgoal ?_
  clear hgoal
  rw [hrn] at hl
  have hok := okW_iff.1 hw
  have CR : Hid (∀ (w1 : World) (m : Int), Below w.heap.size w w1 → Calls Tryd.prog 62 #[.agg #[.int .i64 d0, .int .i64 d1, .int .i64 d2, .int .i64 d3, .int .i64 c0, .int .i64 c1, .int .i64 c2, .int .i64 c3, .slice RA rn rc, .slice CA cn cc], .int .i64 m] w1 fun e w' => e = .returned (.bool (usdB rg m)) ∧ Below w1.heap.size w1 w') := Lib.hid fun w1 m hb =>
    r38_inRing d0 d1 d2 d3 c0 c1 c2 c3 RA rn rc (.slice CA cn cc) rg m w1 (hp.grow hb) hrn hl hri
  have HP := Lib.hid hp
  have HW := Lib.hid hw
  have HRN := Lib.hid hrn
  have HR := Lib.hid hr
  have HFB := Lib.hid hi
  clear hp hw hrn hcn hr hi hri
  have hc := ops12f HFB.out
  simp only at hc
  rcases hc with rfl | rfl | rfl | rfl | rfl | rfl | rfl | rfl | rfl | rfl | rfl | rfl
  · obtain rfl : r = true := by rw [← HR.out]; simp [fitI]
    go_enter Tryd.func50, Tryd.ntmps50
    go_upto_region 1 with fail
    obtain ⟨bp, bi, hb0⟩ := entryPI w [.int .i64 d0, .int .i64 d1, .int .i64 d2, .int .i64 d3, .int .i64 c0, .int .i64 c1, .int .i64 c2, .int .i64 c3, .slice RA rn rc, .slice CA cn cc] ⟨0, a, b, imm⟩ _ rfl
    change Code.wp _ _ _ _ ((w.alloc (.cells [.int .i64 d0, .int .i64 d1, .int .i64 d2, .int .i64 d3, .int .i64 c0, .int .i64 c1, .int .i64 c2, .int .i64 c3, .slice RA rn rc, .slice CA cn cc].toArray 30)).alloc (.cells (Ins.cells ⟨0, a, b, imm⟩).toArray 48))
    generalize ((w.alloc (.cells [.int .i64 d0, .int .i64 d1, .int .i64 d2, .int .i64 d3, .int .i64 c0, .int .i64 c1, .int .i64 c2, .int .i64 c3, .slice RA rn rc, .slice CA cn cc].toArray 30)).alloc (.cells (Ins.cells ⟨0, a, b, imm⟩).toArray 48)) = w1 at bp bi hb0 ⊢
    have HB1 := Lib.hid hb0
    have HBP1 := Lib.hid bp
    obtain ⟨⟨x0, x1, x2, x3⟩, ⟨x4, x5, x6, x7⟩, x8, x9⟩ := bp.c10
    obtain ⟨y0, y1, y2, y3⟩ := bi.c4
    have HBI1 := Lib.hid bi
    clear hb0 bp bi
    generalize hgp : w.heap.size = gp at HBP1 HBI1 x0 x1 x2 x3 x4 x5 x6 x7 x8 x9 y0 y1 y2 y3 ⊢
    have HGP := Lib.hid hgp
    clear hgp
    go_wp2_with fail
    go_ret
    exact ⟨rfl, HB1.out⟩
  · obtain rfl : r = true := by rw [← HR.out]; simp [fitI]
    go_enter Tryd.func50, Tryd.ntmps50
    go_upto_region 1 with fail
    obtain ⟨bp, bi, hb0⟩ := entryPI w [.int .i64 d0, .int .i64 d1, .int .i64 d2, .int .i64 d3, .int .i64 c0, .int .i64 c1, .int .i64 c2, .int .i64 c3, .slice RA rn rc, .slice CA cn cc] ⟨1, a, b, imm⟩ _ rfl
    change Code.wp _ _ _ _ ((w.alloc (.cells [.int .i64 d0, .int .i64 d1, .int .i64 d2, .int .i64 d3, .int .i64 c0, .int .i64 c1, .int .i64 c2, .int .i64 c3, .slice RA rn rc, .slice CA cn cc].toArray 30)).alloc (.cells (Ins.cells ⟨1, a, b, imm⟩).toArray 48))
    generalize ((w.alloc (.cells [.int .i64 d0, .int .i64 d1, .int .i64 d2, .int .i64 d3, .int .i64 c0, .int .i64 c1, .int .i64 c2, .int .i64 c3, .slice RA rn rc, .slice CA cn cc].toArray 30)).alloc (.cells (Ins.cells ⟨1, a, b, imm⟩).toArray 48)) = w1 at bp bi hb0 ⊢
    have HB1 := Lib.hid hb0
    have HBP1 := Lib.hid bp
    obtain ⟨⟨x0, x1, x2, x3⟩, ⟨x4, x5, x6, x7⟩, x8, x9⟩ := bp.c10
    obtain ⟨y0, y1, y2, y3⟩ := bi.c4
    have HBI1 := Lib.hid bi
    clear hb0 bp bi
    generalize hgp : w.heap.size = gp at HBP1 HBI1 x0 x1 x2 x3 x4 x5 x6 x7 x8 x9 y0 y1 y2 y3 ⊢
    have HGP := Lib.hid hgp
    clear hgp
    go_wp2_with fail
    go_ret
    exact ⟨rfl, HB1.out⟩
  · go_enter Tryd.func50, Tryd.ntmps50
    go_upto_region 1 with fail
    obtain ⟨bp, bi, hb0⟩ := entryPI w [.int .i64 d0, .int .i64 d1, .int .i64 d2, .int .i64 d3, .int .i64 c0, .int .i64 c1, .int .i64 c2, .int .i64 c3, .slice RA rn rc, .slice CA cn cc] ⟨2, a, b, imm⟩ _ rfl
    change Code.wp _ _ _ _ ((w.alloc (.cells [.int .i64 d0, .int .i64 d1, .int .i64 d2, .int .i64 d3, .int .i64 c0, .int .i64 c1, .int .i64 c2, .int .i64 c3, .slice RA rn rc, .slice CA cn cc].toArray 30)).alloc (.cells (Ins.cells ⟨2, a, b, imm⟩).toArray 48))
    generalize ((w.alloc (.cells [.int .i64 d0, .int .i64 d1, .int .i64 d2, .int .i64 d3, .int .i64 c0, .int .i64 c1, .int .i64 c2, .int .i64 c3, .slice RA rn rc, .slice CA cn cc].toArray 30)).alloc (.cells (Ins.cells ⟨2, a, b, imm⟩).toArray 48)) = w1 at bp bi hb0 ⊢
    have HB1 := Lib.hid hb0
    have HBP1 := Lib.hid bp
    obtain ⟨⟨x0, x1, x2, x3⟩, ⟨x4, x5, x6, x7⟩, x8, x9⟩ := bp.c10
    obtain ⟨y0, y1, y2, y3⟩ := bi.c4
    have HBI1 := Lib.hid bi
    clear hb0 bp bi
    generalize hgp : w.heap.size = gp at HBP1 HBI1 x0 x1 x2 x3 x4 x5 x6 x7 x8 x9 y0 y1 y2 y3 ⊢
    have HGP := Lib.hid hgp
    clear hgp
    obtain ⟨P, hP⟩ : ∃ P, (2 : Int) ^ c1.toNat = P := ⟨_, rfl⟩
    have hsh : wrap64 (2 ^ c1.toNat) = P := by rw [← hP]; exact w64_pow (by omega)
    have hc0 : 0 ≤ c1 := by omega
    have hc62 : c1 < 64 := by omega
    obtain ⟨fb, hfb⟩ : ∃ c, fitsW c0 c1 c2 c3 imm = c := ⟨_, rfl⟩
    have HFI := Lib.hid hfb
    have HPP := Lib.hid hP
    clear hfb hP
    cases fb with
    | true =>
      obtain rfl : r = true := by rw [← HR.out]; simp [fitI, HFI.out]
      go_wp2_with (go_at_call 63; (with_reducible refine (rfits_is HFI.out _).mono ?_); rintro e1 w8 ⟨rfl, hb8⟩; obtain ⟨⟨x0, x1, x2, x3⟩, ⟨x4, x5, x6, x7⟩, x8, x9⟩ := (HBP1.out.keep hb8).c10; obtain ⟨y0, y1, y2, y3⟩ := (HBI1.out.keep hb8).c4)
      go_ret
      exact ⟨rfl, below_then HB1.out hb8⟩
    | false =>
      by_cases hi : imm = P
      · obtain rfl : r = true := by rw [← HR.out]; simp [fitI, HPP.out, hi]
        have hi1 : (imm == P) = true := by simpa using hi
        clear hi
        go_wp2_with (go_at_call 63; (with_reducible refine (rfits_is HFI.out _).mono ?_); rintro e1 w8 ⟨rfl, hb8⟩; obtain ⟨⟨x0, x1, x2, x3⟩, ⟨x4, x5, x6, x7⟩, x8, x9⟩ := (HBP1.out.keep hb8).c10; obtain ⟨y0, y1, y2, y3⟩ := (HBI1.out.keep hb8).c4)
        go_ret
        exact ⟨rfl, below_then HB1.out hb8⟩
      · obtain rfl : r = false := by rw [← HR.out]; simp [fitI, HFI.out, HPP.out, hi]
        have hi1 : (imm == P) = false := by simpa using hi
        clear hi
        go_wp2_with (go_at_call 63; (with_reducible refine (rfits_is HFI.out _).mono ?_); rintro e1 w8 ⟨rfl, hb8⟩; obtain ⟨⟨x0, x1, x2, x3⟩, ⟨x4, x5, x6, x7⟩, x8, x9⟩ := (HBP1.out.keep hb8).c10; obtain ⟨y0, y1, y2, y3⟩ := (HBI1.out.keep hb8).c4)
        go_ret
        exact ⟨rfl, below_then HB1.out hb8⟩
  · go_enter Tryd.func50, Tryd.ntmps50
    go_upto_region 1 with fail
    obtain ⟨bp, bi, hb0⟩ := entryPI w [.int .i64 d0, .int .i64 d1, .int .i64 d2, .int .i64 d3, .int .i64 c0, .int .i64 c1, .int .i64 c2, .int .i64 c3, .slice RA rn rc, .slice CA cn cc] ⟨3, a, b, imm⟩ _ rfl
    change Code.wp _ _ _ _ ((w.alloc (.cells [.int .i64 d0, .int .i64 d1, .int .i64 d2, .int .i64 d3, .int .i64 c0, .int .i64 c1, .int .i64 c2, .int .i64 c3, .slice RA rn rc, .slice CA cn cc].toArray 30)).alloc (.cells (Ins.cells ⟨3, a, b, imm⟩).toArray 48))
    generalize ((w.alloc (.cells [.int .i64 d0, .int .i64 d1, .int .i64 d2, .int .i64 d3, .int .i64 c0, .int .i64 c1, .int .i64 c2, .int .i64 c3, .slice RA rn rc, .slice CA cn cc].toArray 30)).alloc (.cells (Ins.cells ⟨3, a, b, imm⟩).toArray 48)) = w1 at bp bi hb0 ⊢
    have HB1 := Lib.hid hb0
    have HBP1 := Lib.hid bp
    obtain ⟨⟨x0, x1, x2, x3⟩, ⟨x4, x5, x6, x7⟩, x8, x9⟩ := bp.c10
    obtain ⟨y0, y1, y2, y3⟩ := bi.c4
    have HBI1 := Lib.hid bi
    clear hb0 bp bi
    generalize hgp : w.heap.size = gp at HBP1 HBI1 x0 x1 x2 x3 x4 x5 x6 x7 x8 x9 y0 y1 y2 y3 ⊢
    have HGP := Lib.hid hgp
    clear hgp
    have CRM := Lib.hid (CR.out w1 a HB1.out)
    obtain ⟨ub, hub⟩ : ∃ c, usdB rg a = c := ⟨_, rfl⟩
    rw [hub] at CRM
    have HUB := Lib.hid hub
    clear hub CR
    cases ub with
    | true =>
      obtain rfl : r = false := by rw [← HR.out]; simp [fitI, HUB.out]
      go_wp2_with (first | ((with_reducible show wpList _ _ _ (Oper.mk _ (.load 30 _) _ _ _ _ :: _) _ _); refine ld_prg HBP1.out rfl rfl _ rfl rfl ?_) | (go_at_call 62; (with_reducible refine CRM.out.mono ?_); rintro e1 w2 ⟨rfl, hb2⟩))
      go_ret
      exact ⟨rfl, below_then HB1.out hb2⟩
    | false =>
      go_upto_region 15 with (first | ((with_reducible show wpList _ _ _ (Oper.mk _ (.load 30 _) _ _ _ _ :: _) _ _); refine ld_prg HBP1.out rfl rfl _ rfl rfl ?_) | (go_at_call 62; (with_reducible refine CRM.out.mono ?_); rintro e1 w2 ⟨rfl, hb2⟩))
      have HB2 := Lib.hid (below_then HB1.out hb2)
      have HBP2 := Lib.hid (HBP1.out.keep hb2)
      have HBI2 := Lib.hid (HBI1.out.keep hb2)
      obtain ⟨⟨x0, x1, x2, x3⟩, ⟨x4, x5, x6, x7⟩, x8, x9⟩ := HBP2.out.c10
      obtain ⟨y0, y1, y2, y3⟩ := HBI2.out.c4
      clear hb2 HB1 HBP1 HBI1 CRM
      obtain ⟨P, hP⟩ : ∃ P, (2 : Int) ^ c1.toNat = P := ⟨_, rfl⟩
      have hsh : wrap64 (2 ^ c1.toNat) = P := by rw [← hP]; exact w64_pow (by omega)
      have hc0 : 0 ≤ c1 := by omega
      have hc62 : c1 < 64 := by omega
      obtain ⟨fb, hfb⟩ : ∃ c, fitsW c0 c1 c2 c3 imm = c := ⟨_, rfl⟩
      have HFI := Lib.hid hfb
      have HPP := Lib.hid hP
      clear hfb hP
      cases fb with
      | true =>
        obtain rfl : r = true := by rw [← HR.out]; simp [fitI, HFI.out, HUB.out]
        go_wp2_with (go_at_call 63; (with_reducible refine (rfits_is HFI.out _).mono ?_); rintro e1 w8 ⟨rfl, hb8⟩; obtain ⟨⟨x0, x1, x2, x3⟩, ⟨x4, x5, x6, x7⟩, x8, x9⟩ := (HBP2.out.keep hb8).c10; obtain ⟨y0, y1, y2, y3⟩ := (HBI2.out.keep hb8).c4)
        go_ret
        exact ⟨rfl, below_then HB2.out hb8⟩
      | false =>
        by_cases hi : imm = P
        · obtain rfl : r = true := by rw [← HR.out]; simp [fitI, HPP.out, hi, HUB.out]
          have hi1 : (imm == P) = true := by simpa using hi
          clear hi
          go_wp2_with (go_at_call 63; (with_reducible refine (rfits_is HFI.out _).mono ?_); rintro e1 w8 ⟨rfl, hb8⟩; obtain ⟨⟨x0, x1, x2, x3⟩, ⟨x4, x5, x6, x7⟩, x8, x9⟩ := (HBP2.out.keep hb8).c10; obtain ⟨y0, y1, y2, y3⟩ := (HBI2.out.keep hb8).c4)
          go_ret
          exact ⟨rfl, below_then HB2.out hb8⟩
        · obtain rfl : r = false := by rw [← HR.out]; simp [fitI, HFI.out, HPP.out, hi, HUB.out]
          have hi1 : (imm == P) = false := by simpa using hi
          clear hi
          go_wp2_with (go_at_call 63; (with_reducible refine (rfits_is HFI.out _).mono ?_); rintro e1 w8 ⟨rfl, hb8⟩; obtain ⟨⟨x0, x1, x2, x3⟩, ⟨x4, x5, x6, x7⟩, x8, x9⟩ := (HBP2.out.keep hb8).c10; obtain ⟨y0, y1, y2, y3⟩ := (HBI2.out.keep hb8).c4)
          go_ret
          exact ⟨rfl, below_then HB2.out hb8⟩
  · obtain ⟨-, ha, hb, -⟩ := formed_parts HFB.out
    simp only at ha hb
    obtain ⟨ka, rfl⟩ := Int.eq_ofNat_of_zero_le ha.1
    obtain ⟨kb, rfl⟩ := Int.eq_ofNat_of_zero_le hb.1
    by_cases hk : ka < rn
    · obtain ⟨xr, hxr⟩ : ∃ x, rg[ka]? = some x := ⟨_, List.getElem?_eq_getElem (by rw [HRN.out]; exact hk)⟩
      obtain ⟨ad, hRA, -, -, -, -⟩ := HP.out ka xr hxr
      subst hRA
      have HXR := Lib.hid hxr
      obtain ⟨xb, xl⟩ := xr
      have hk1 : ¬ (rn : Int) ≤ (ka : Int) := by omega
      have hk2 : decide ((rn : Int) ≤ (ka : Int)) = false := decide_eq_false hk1
      have hk2n : decide (rn ≤ ka) = false := decide_eq_false (by omega)
      have hk1n : ¬ rn ≤ ka := by omega
      have hk3 : (0 : Int) ≤ (ka : Int) := by omega
      have hk4 : (ka : Int) < (rn : Int) := by omega
      clear hxr
      by_cases hkb : (kb : Int) < xl
      · have hkb1 : ¬ xl ≤ (kb : Int) := by omega
        have hkb2 : decide (xl ≤ (kb : Int)) = false := decide_eq_false hkb1
        go_enter Tryd.func50, Tryd.ntmps50
        go_upto_region 1 with fail
        obtain ⟨bp, bi, hb0⟩ := entryPI w [.int .i64 d0, .int .i64 d1, .int .i64 d2, .int .i64 d3, .int .i64 c0, .int .i64 c1, .int .i64 c2, .int .i64 c3, .slice (some ad) rn rc, .slice CA cn cc] ⟨4, ka, kb, imm⟩ _ rfl
        change Code.wp _ _ _ _ ((w.alloc (.cells [.int .i64 d0, .int .i64 d1, .int .i64 d2, .int .i64 d3, .int .i64 c0, .int .i64 c1, .int .i64 c2, .int .i64 c3, .slice (some ad) rn rc, .slice CA cn cc].toArray 30)).alloc (.cells (Ins.cells ⟨4, ka, kb, imm⟩).toArray 48))
        generalize ((w.alloc (.cells [.int .i64 d0, .int .i64 d1, .int .i64 d2, .int .i64 d3, .int .i64 c0, .int .i64 c1, .int .i64 c2, .int .i64 c3, .slice (some ad) rn rc, .slice CA cn cc].toArray 30)).alloc (.cells (Ins.cells ⟨4, ka, kb, imm⟩).toArray 48)) = w1 at bp bi hb0 ⊢
        have HB1 := Lib.hid hb0
        have HBP1 := Lib.hid bp
        obtain ⟨⟨x0, x1, x2, x3⟩, ⟨x4, x5, x6, x7⟩, x8, x9⟩ := bp.c10
        obtain ⟨y0, y1, y2, y3⟩ := bi.c4
        have HBI1 := Lib.hid bi
        clear hb0 bp bi
        generalize hgp : w.heap.size = gp at HBP1 HBI1 x0 x1 x2 x3 x4 x5 x6 x7 x8 x9 y0 y1 y2 y3 ⊢
        have HGP := Lib.hid hgp
        clear hgp
        go_upto_region 4 with fail
        have e1 := HBP1.out.ext (k := 8) (v := .slice (some ad) rn rc) rfl
        have e2 := HBI1.out.ext (k := 1) (v := .int .i64 (ka : Int)) rfl
        have e3 := HBI1.out.ext (k := 2) (v := .int .i64 (kb : Int)) rfl
        obtain ⟨ad1, hA1, -, e4, -, -⟩ := ring_ext (HP.out.grow HB1.out) HXR.out
        injection hA1 with hA1
        subst hA1
        simp only at e4
        refine wp_region_ext (by kernel_rfl) (by kernel_rfl) ?_
        repeat (go_big_quiet_step (fail))
        refine wpQuiet_nil ?_
        rintro w2 ⟨⟨_, hb2⟩, rfl⟩
        have HB2 := Lib.hid (below_then HB1.out hb2)
        have HBP2 := Lib.hid (HBP1.out.keep hb2)
        have HBI2 := Lib.hid (HBI1.out.keep hb2)
        obtain ⟨⟨x0, x1, x2, x3⟩, ⟨x4, x5, x6, x7⟩, x8, x9⟩ := HBP2.out.c10
        obtain ⟨y0, y1, y2, y3⟩ := HBI2.out.c4
        clear e4 hb2 HB1 HBP1 HBI1 e1 e2 e3
        obtain ⟨P, hP⟩ : ∃ P, (2 : Int) ^ c1.toNat = P := ⟨_, rfl⟩
        have hsh : wrap64 (2 ^ c1.toNat) = P := by rw [← hP]; exact w64_pow (by omega)
        have hc0 : 0 ≤ c1 := by omega
        have hc62 : c1 < 64 := by omega
        obtain ⟨fb, hfb⟩ : ∃ c, fitsW c0 c1 c2 c3 imm = c := ⟨_, rfl⟩
        have HFI := Lib.hid hfb
        have HPP := Lib.hid hP
        clear hfb hP
        cases fb with
        | true =>
          obtain rfl : r = true := by rw [← HR.out]; simp [fitI, HFI.out, HRN.out, List.getD_eq_getElem?_getD, HXR.out]; omega
          go_wp2_with (go_at_call 63; (with_reducible refine (rfits_is HFI.out _).mono ?_); rintro e1 w8 ⟨rfl, hb8⟩; obtain ⟨⟨x0, x1, x2, x3⟩, ⟨x4, x5, x6, x7⟩, x8, x9⟩ := (HBP2.out.keep hb8).c10; obtain ⟨y0, y1, y2, y3⟩ := (HBI2.out.keep hb8).c4)
          go_ret
          exact ⟨rfl, below_then HB2.out hb8⟩
        | false =>
          by_cases hi : imm = P
          · obtain rfl : r = true := by rw [← HR.out]; simp [fitI, HPP.out, hi, HRN.out, List.getD_eq_getElem?_getD, HXR.out]; omega
            have hi1 : (imm == P) = true := by simpa using hi
            clear hi
            go_wp2_with (go_at_call 63; (with_reducible refine (rfits_is HFI.out _).mono ?_); rintro e1 w8 ⟨rfl, hb8⟩; obtain ⟨⟨x0, x1, x2, x3⟩, ⟨x4, x5, x6, x7⟩, x8, x9⟩ := (HBP2.out.keep hb8).c10; obtain ⟨y0, y1, y2, y3⟩ := (HBI2.out.keep hb8).c4)
            go_ret
            exact ⟨rfl, below_then HB2.out hb8⟩
          · obtain rfl : r = false := by rw [← HR.out]; simp [fitI, HFI.out, HPP.out, hi]
            have hi1 : (imm == P) = false := by simpa using hi
            clear hi
            go_wp2_with (go_at_call 63; (with_reducible refine (rfits_is HFI.out _).mono ?_); rintro e1 w8 ⟨rfl, hb8⟩; obtain ⟨⟨x0, x1, x2, x3⟩, ⟨x4, x5, x6, x7⟩, x8, x9⟩ := (HBP2.out.keep hb8).c10; obtain ⟨y0, y1, y2, y3⟩ := (HBI2.out.keep hb8).c4)
            go_ret
            exact ⟨rfl, below_then HB2.out hb8⟩
      · obtain rfl : r = false := by rw [← HR.out]; simp [fitI, HRN.out, List.getD_eq_getElem?_getD, HXR.out]; omega
        have hkb1 : xl ≤ (kb : Int) := by omega
        have hkb2 : decide (xl ≤ (kb : Int)) = true := decide_eq_true hkb1
        go_enter Tryd.func50, Tryd.ntmps50
        go_upto_region 1 with fail
        obtain ⟨bp, bi, hb0⟩ := entryPI w [.int .i64 d0, .int .i64 d1, .int .i64 d2, .int .i64 d3, .int .i64 c0, .int .i64 c1, .int .i64 c2, .int .i64 c3, .slice (some ad) rn rc, .slice CA cn cc] ⟨4, ka, kb, imm⟩ _ rfl
        change Code.wp _ _ _ _ ((w.alloc (.cells [.int .i64 d0, .int .i64 d1, .int .i64 d2, .int .i64 d3, .int .i64 c0, .int .i64 c1, .int .i64 c2, .int .i64 c3, .slice (some ad) rn rc, .slice CA cn cc].toArray 30)).alloc (.cells (Ins.cells ⟨4, ka, kb, imm⟩).toArray 48))
        generalize ((w.alloc (.cells [.int .i64 d0, .int .i64 d1, .int .i64 d2, .int .i64 d3, .int .i64 c0, .int .i64 c1, .int .i64 c2, .int .i64 c3, .slice (some ad) rn rc, .slice CA cn cc].toArray 30)).alloc (.cells (Ins.cells ⟨4, ka, kb, imm⟩).toArray 48)) = w1 at bp bi hb0 ⊢
        have HB1 := Lib.hid hb0
        have HBP1 := Lib.hid bp
        obtain ⟨⟨x0, x1, x2, x3⟩, ⟨x4, x5, x6, x7⟩, x8, x9⟩ := bp.c10
        obtain ⟨y0, y1, y2, y3⟩ := bi.c4
        have HBI1 := Lib.hid bi
        clear hb0 bp bi
        generalize hgp : w.heap.size = gp at HBP1 HBI1 x0 x1 x2 x3 x4 x5 x6 x7 x8 x9 y0 y1 y2 y3 ⊢
        have HGP := Lib.hid hgp
        clear hgp
        go_upto_region 4 with fail
        have e1 := HBP1.out.ext (k := 8) (v := .slice (some ad) rn rc) rfl
        have e2 := HBI1.out.ext (k := 1) (v := .int .i64 (ka : Int)) rfl
        have e3 := HBI1.out.ext (k := 2) (v := .int .i64 (kb : Int)) rfl
        obtain ⟨ad1, hA1, -, e4, -, -⟩ := ring_ext (HP.out.grow HB1.out) HXR.out
        injection hA1 with hA1
        subst hA1
        simp only at e4
        refine wp_region_ext (by kernel_rfl) (by kernel_rfl) ?_
        repeat (go_big_quiet_step (fail))
        refine wpQuiet_nil ?_
        rintro w2 ⟨⟨_, hb2⟩, rfl⟩
        have HB2 := Lib.hid (below_then HB1.out hb2)
        have HBP2 := Lib.hid (HBP1.out.keep hb2)
        have HBI2 := Lib.hid (HBI1.out.keep hb2)
        obtain ⟨⟨x0, x1, x2, x3⟩, ⟨x4, x5, x6, x7⟩, x8, x9⟩ := HBP2.out.c10
        obtain ⟨y0, y1, y2, y3⟩ := HBI2.out.c4
        clear hb2 HB1 HBP1 HBI1 e1 e2 e3
        go_wp2_with fail
        go_ret
        exact ⟨rfl, HB2.out⟩
    · obtain rfl : r = false := by rw [← HR.out]; simp [fitI, HRN.out, hk]
      have hk1 : (rn : Int) ≤ (ka : Int) := by omega
      have hk2 : decide ((rn : Int) ≤ (ka : Int)) = true := decide_eq_true hk1
      have hk2n : decide (rn ≤ ka) = true := decide_eq_true (by omega)
      have hk1n : rn ≤ ka := by omega
      go_enter Tryd.func50, Tryd.ntmps50
      go_upto_region 1 with fail
      obtain ⟨bp, bi, hb0⟩ := entryPI w [.int .i64 d0, .int .i64 d1, .int .i64 d2, .int .i64 d3, .int .i64 c0, .int .i64 c1, .int .i64 c2, .int .i64 c3, .slice RA rn rc, .slice CA cn cc] ⟨4, ka, kb, imm⟩ _ rfl
      change Code.wp _ _ _ _ ((w.alloc (.cells [.int .i64 d0, .int .i64 d1, .int .i64 d2, .int .i64 d3, .int .i64 c0, .int .i64 c1, .int .i64 c2, .int .i64 c3, .slice RA rn rc, .slice CA cn cc].toArray 30)).alloc (.cells (Ins.cells ⟨4, ka, kb, imm⟩).toArray 48))
      generalize ((w.alloc (.cells [.int .i64 d0, .int .i64 d1, .int .i64 d2, .int .i64 d3, .int .i64 c0, .int .i64 c1, .int .i64 c2, .int .i64 c3, .slice RA rn rc, .slice CA cn cc].toArray 30)).alloc (.cells (Ins.cells ⟨4, ka, kb, imm⟩).toArray 48)) = w1 at bp bi hb0 ⊢
      have HB1 := Lib.hid hb0
      have HBP1 := Lib.hid bp
      obtain ⟨⟨x0, x1, x2, x3⟩, ⟨x4, x5, x6, x7⟩, x8, x9⟩ := bp.c10
      obtain ⟨y0, y1, y2, y3⟩ := bi.c4
      have HBI1 := Lib.hid bi
      clear hb0 bp bi
      generalize hgp : w.heap.size = gp at HBP1 HBI1 x0 x1 x2 x3 x4 x5 x6 x7 x8 x9 y0 y1 y2 y3 ⊢
      have HGP := Lib.hid hgp
      clear hgp
      go_upto_region 4 with fail
      have e1 := HBP1.out.ext (k := 8) (v := .slice RA rn rc) rfl
      have e2 := HBI1.out.ext (k := 1) (v := .int .i64 (ka : Int)) rfl
      have e3 := HBI1.out.ext (k := 2) (v := .int .i64 (kb : Int)) rfl
      refine wp_region_ext (by kernel_rfl) (by kernel_rfl) ?_
      repeat (go_big_quiet_step (fail))
      refine wpQuiet_nil ?_
      rintro w2 ⟨⟨_, hb2⟩, rfl⟩
      have HB2 := Lib.hid (below_then HB1.out hb2)
      have HBP2 := Lib.hid (HBP1.out.keep hb2)
      have HBI2 := Lib.hid (HBI1.out.keep hb2)
      obtain ⟨⟨x0, x1, x2, x3⟩, ⟨x4, x5, x6, x7⟩, x8, x9⟩ := HBP2.out.c10
      obtain ⟨y0, y1, y2, y3⟩ := HBI2.out.c4
      clear hb2 HB1 HBP1 HBI1 e1 e2 e3
      go_wp2_with fail
      go_ret
      exact ⟨rfl, HB2.out⟩
  · obtain rfl : r = true := by rw [← HR.out]; simp [fitI]
    go_enter Tryd.func50, Tryd.ntmps50
    go_upto_region 1 with fail
    obtain ⟨bp, bi, hb0⟩ := entryPI w [.int .i64 d0, .int .i64 d1, .int .i64 d2, .int .i64 d3, .int .i64 c0, .int .i64 c1, .int .i64 c2, .int .i64 c3, .slice RA rn rc, .slice CA cn cc] ⟨5, a, b, imm⟩ _ rfl
    change Code.wp _ _ _ _ ((w.alloc (.cells [.int .i64 d0, .int .i64 d1, .int .i64 d2, .int .i64 d3, .int .i64 c0, .int .i64 c1, .int .i64 c2, .int .i64 c3, .slice RA rn rc, .slice CA cn cc].toArray 30)).alloc (.cells (Ins.cells ⟨5, a, b, imm⟩).toArray 48))
    generalize ((w.alloc (.cells [.int .i64 d0, .int .i64 d1, .int .i64 d2, .int .i64 d3, .int .i64 c0, .int .i64 c1, .int .i64 c2, .int .i64 c3, .slice RA rn rc, .slice CA cn cc].toArray 30)).alloc (.cells (Ins.cells ⟨5, a, b, imm⟩).toArray 48)) = w1 at bp bi hb0 ⊢
    have HB1 := Lib.hid hb0
    have HBP1 := Lib.hid bp
    obtain ⟨⟨x0, x1, x2, x3⟩, ⟨x4, x5, x6, x7⟩, x8, x9⟩ := bp.c10
    obtain ⟨y0, y1, y2, y3⟩ := bi.c4
    have HBI1 := Lib.hid bi
    clear hb0 bp bi
    generalize hgp : w.heap.size = gp at HBP1 HBI1 x0 x1 x2 x3 x4 x5 x6 x7 x8 x9 y0 y1 y2 y3 ⊢
    have HGP := Lib.hid hgp
    clear hgp
    go_wp2_with fail
    go_ret
    exact ⟨rfl, HB1.out⟩
  · go_enter Tryd.func50, Tryd.ntmps50
    go_upto_region 1 with fail
    obtain ⟨bp, bi, hb0⟩ := entryPI w [.int .i64 d0, .int .i64 d1, .int .i64 d2, .int .i64 d3, .int .i64 c0, .int .i64 c1, .int .i64 c2, .int .i64 c3, .slice RA rn rc, .slice CA cn cc] ⟨6, a, b, imm⟩ _ rfl
    change Code.wp _ _ _ _ ((w.alloc (.cells [.int .i64 d0, .int .i64 d1, .int .i64 d2, .int .i64 d3, .int .i64 c0, .int .i64 c1, .int .i64 c2, .int .i64 c3, .slice RA rn rc, .slice CA cn cc].toArray 30)).alloc (.cells (Ins.cells ⟨6, a, b, imm⟩).toArray 48))
    generalize ((w.alloc (.cells [.int .i64 d0, .int .i64 d1, .int .i64 d2, .int .i64 d3, .int .i64 c0, .int .i64 c1, .int .i64 c2, .int .i64 c3, .slice RA rn rc, .slice CA cn cc].toArray 30)).alloc (.cells (Ins.cells ⟨6, a, b, imm⟩).toArray 48)) = w1 at bp bi hb0 ⊢
    have HB1 := Lib.hid hb0
    have HBP1 := Lib.hid bp
    obtain ⟨⟨x0, x1, x2, x3⟩, ⟨x4, x5, x6, x7⟩, x8, x9⟩ := bp.c10
    obtain ⟨y0, y1, y2, y3⟩ := bi.c4
    have HBI1 := Lib.hid bi
    clear hb0 bp bi
    generalize hgp : w.heap.size = gp at HBP1 HBI1 x0 x1 x2 x3 x4 x5 x6 x7 x8 x9 y0 y1 y2 y3 ⊢
    have HGP := Lib.hid hgp
    clear hgp
    have CRM := Lib.hid (CR.out w1 b HB1.out)
    obtain ⟨ub, hub⟩ : ∃ c, usdB rg b = c := ⟨_, rfl⟩
    rw [hub] at CRM
    have HUB := Lib.hid hub
    clear hub CR
    cases ub with
    | true =>
      obtain rfl : r = false := by rw [← HR.out]; simp [fitI, HUB.out]
      go_wp2_with (first | ((with_reducible show wpList _ _ _ (Oper.mk _ (.load 30 _) _ _ _ _ :: _) _ _); refine ld_prg HBP1.out rfl rfl _ rfl rfl ?_) | (go_at_call 62; (with_reducible refine CRM.out.mono ?_); rintro e1 w2 ⟨rfl, hb2⟩))
      go_ret
      exact ⟨rfl, below_then HB1.out hb2⟩
    | false =>
      obtain rfl : r = true := by rw [← HR.out]; simp [fitI, HUB.out]
      go_wp2_with (first | ((with_reducible show wpList _ _ _ (Oper.mk _ (.load 30 _) _ _ _ _ :: _) _ _); refine ld_prg HBP1.out rfl rfl _ rfl rfl ?_) | (go_at_call 62; (with_reducible refine CRM.out.mono ?_); rintro e1 w2 ⟨rfl, hb2⟩))
      go_ret
      exact ⟨rfl, below_then HB1.out hb2⟩
  · go_enter Tryd.func50, Tryd.ntmps50
    go_upto_region 1 with fail
    obtain ⟨bp, bi, hb0⟩ := entryPI w [.int .i64 d0, .int .i64 d1, .int .i64 d2, .int .i64 d3, .int .i64 c0, .int .i64 c1, .int .i64 c2, .int .i64 c3, .slice RA rn rc, .slice CA cn cc] ⟨7, a, b, imm⟩ _ rfl
    change Code.wp _ _ _ _ ((w.alloc (.cells [.int .i64 d0, .int .i64 d1, .int .i64 d2, .int .i64 d3, .int .i64 c0, .int .i64 c1, .int .i64 c2, .int .i64 c3, .slice RA rn rc, .slice CA cn cc].toArray 30)).alloc (.cells (Ins.cells ⟨7, a, b, imm⟩).toArray 48))
    generalize ((w.alloc (.cells [.int .i64 d0, .int .i64 d1, .int .i64 d2, .int .i64 d3, .int .i64 c0, .int .i64 c1, .int .i64 c2, .int .i64 c3, .slice RA rn rc, .slice CA cn cc].toArray 30)).alloc (.cells (Ins.cells ⟨7, a, b, imm⟩).toArray 48)) = w1 at bp bi hb0 ⊢
    have HB1 := Lib.hid hb0
    have HBP1 := Lib.hid bp
    obtain ⟨⟨x0, x1, x2, x3⟩, ⟨x4, x5, x6, x7⟩, x8, x9⟩ := bp.c10
    obtain ⟨y0, y1, y2, y3⟩ := bi.c4
    have HBI1 := Lib.hid bi
    clear hb0 bp bi
    generalize hgp : w.heap.size = gp at HBP1 HBI1 x0 x1 x2 x3 x4 x5 x6 x7 x8 x9 y0 y1 y2 y3 ⊢
    have HGP := Lib.hid hgp
    clear hgp
    have CRM := Lib.hid (CR.out w1 b HB1.out)
    obtain ⟨ub, hub⟩ : ∃ c, usdB rg b = c := ⟨_, rfl⟩
    rw [hub] at CRM
    have HUB := Lib.hid hub
    clear hub CR
    cases ub with
    | true =>
      obtain rfl : r = false := by rw [← HR.out]; simp [fitI, HUB.out]
      go_wp2_with (first | ((with_reducible show wpList _ _ _ (Oper.mk _ (.load 30 _) _ _ _ _ :: _) _ _); refine ld_prg HBP1.out rfl rfl _ rfl rfl ?_) | (go_at_call 62; (with_reducible refine CRM.out.mono ?_); rintro e1 w2 ⟨rfl, hb2⟩))
      go_ret
      exact ⟨rfl, below_then HB1.out hb2⟩
    | false =>
      obtain rfl : r = true := by rw [← HR.out]; simp [fitI, HUB.out]
      go_wp2_with (first | ((with_reducible show wpList _ _ _ (Oper.mk _ (.load 30 _) _ _ _ _ :: _) _ _); refine ld_prg HBP1.out rfl rfl _ rfl rfl ?_) | (go_at_call 62; (with_reducible refine CRM.out.mono ?_); rintro e1 w2 ⟨rfl, hb2⟩))
      go_ret
      exact ⟨rfl, below_then HB1.out hb2⟩
  · obtain ⟨-, ha, -⟩ := formed_parts HFB.out
    simp only at ha
    obtain ⟨ka, rfl⟩ := Int.eq_ofNat_of_zero_le ha.1
    by_cases hk : ka < rn
    · obtain rfl : r = true := by rw [← HR.out]; simp [fitI, HRN.out]; omega
      have hk1 : (ka : Int) < (rn : Int) := by omega
      have hk2 : decide ((ka : Int) < (rn : Int)) = true := decide_eq_true hk1
      have hk3 : decide (ka < rn) = true := decide_eq_true hk
      go_enter Tryd.func50, Tryd.ntmps50
      go_upto_region 1 with fail
      obtain ⟨bp, bi, hb0⟩ := entryPI w [.int .i64 d0, .int .i64 d1, .int .i64 d2, .int .i64 d3, .int .i64 c0, .int .i64 c1, .int .i64 c2, .int .i64 c3, .slice RA rn rc, .slice CA cn cc] ⟨8, ka, b, imm⟩ _ rfl
      change Code.wp _ _ _ _ ((w.alloc (.cells [.int .i64 d0, .int .i64 d1, .int .i64 d2, .int .i64 d3, .int .i64 c0, .int .i64 c1, .int .i64 c2, .int .i64 c3, .slice RA rn rc, .slice CA cn cc].toArray 30)).alloc (.cells (Ins.cells ⟨8, ka, b, imm⟩).toArray 48))
      generalize ((w.alloc (.cells [.int .i64 d0, .int .i64 d1, .int .i64 d2, .int .i64 d3, .int .i64 c0, .int .i64 c1, .int .i64 c2, .int .i64 c3, .slice RA rn rc, .slice CA cn cc].toArray 30)).alloc (.cells (Ins.cells ⟨8, ka, b, imm⟩).toArray 48)) = w1 at bp bi hb0 ⊢
      have HB1 := Lib.hid hb0
      have HBP1 := Lib.hid bp
      obtain ⟨⟨x0, x1, x2, x3⟩, ⟨x4, x5, x6, x7⟩, x8, x9⟩ := bp.c10
      obtain ⟨y0, y1, y2, y3⟩ := bi.c4
      have HBI1 := Lib.hid bi
      clear hb0 bp bi
      generalize hgp : w.heap.size = gp at HBP1 HBI1 x0 x1 x2 x3 x4 x5 x6 x7 x8 x9 y0 y1 y2 y3 ⊢
      have HGP := Lib.hid hgp
      clear hgp
      go_wp2_with fail
      go_ret
      exact ⟨rfl, HB1.out⟩
    · obtain rfl : r = false := by rw [← HR.out]; simp [fitI, HRN.out]; omega
      have hk1 : ¬ (ka : Int) < (rn : Int) := by omega
      have hk2 : decide ((ka : Int) < (rn : Int)) = false := decide_eq_false hk1
      have hk3 : decide (ka < rn) = false := decide_eq_false hk
      go_enter Tryd.func50, Tryd.ntmps50
      go_upto_region 1 with fail
      obtain ⟨bp, bi, hb0⟩ := entryPI w [.int .i64 d0, .int .i64 d1, .int .i64 d2, .int .i64 d3, .int .i64 c0, .int .i64 c1, .int .i64 c2, .int .i64 c3, .slice RA rn rc, .slice CA cn cc] ⟨8, ka, b, imm⟩ _ rfl
      change Code.wp _ _ _ _ ((w.alloc (.cells [.int .i64 d0, .int .i64 d1, .int .i64 d2, .int .i64 d3, .int .i64 c0, .int .i64 c1, .int .i64 c2, .int .i64 c3, .slice RA rn rc, .slice CA cn cc].toArray 30)).alloc (.cells (Ins.cells ⟨8, ka, b, imm⟩).toArray 48))
      generalize ((w.alloc (.cells [.int .i64 d0, .int .i64 d1, .int .i64 d2, .int .i64 d3, .int .i64 c0, .int .i64 c1, .int .i64 c2, .int .i64 c3, .slice RA rn rc, .slice CA cn cc].toArray 30)).alloc (.cells (Ins.cells ⟨8, ka, b, imm⟩).toArray 48)) = w1 at bp bi hb0 ⊢
      have HB1 := Lib.hid hb0
      have HBP1 := Lib.hid bp
      obtain ⟨⟨x0, x1, x2, x3⟩, ⟨x4, x5, x6, x7⟩, x8, x9⟩ := bp.c10
      obtain ⟨y0, y1, y2, y3⟩ := bi.c4
      have HBI1 := Lib.hid bi
      clear hb0 bp bi
      generalize hgp : w.heap.size = gp at HBP1 HBI1 x0 x1 x2 x3 x4 x5 x6 x7 x8 x9 y0 y1 y2 y3 ⊢
      have HGP := Lib.hid hgp
      clear hgp
      go_wp2_with fail
      go_ret
      exact ⟨rfl, HB1.out⟩
  · obtain rfl : r = true := by rw [← HR.out]; simp [fitI]
    go_enter Tryd.func50, Tryd.ntmps50
    go_upto_region 1 with fail
    obtain ⟨bp, bi, hb0⟩ := entryPI w [.int .i64 d0, .int .i64 d1, .int .i64 d2, .int .i64 d3, .int .i64 c0, .int .i64 c1, .int .i64 c2, .int .i64 c3, .slice RA rn rc, .slice CA cn cc] ⟨9, a, b, imm⟩ _ rfl
    change Code.wp _ _ _ _ ((w.alloc (.cells [.int .i64 d0, .int .i64 d1, .int .i64 d2, .int .i64 d3, .int .i64 c0, .int .i64 c1, .int .i64 c2, .int .i64 c3, .slice RA rn rc, .slice CA cn cc].toArray 30)).alloc (.cells (Ins.cells ⟨9, a, b, imm⟩).toArray 48))
    generalize ((w.alloc (.cells [.int .i64 d0, .int .i64 d1, .int .i64 d2, .int .i64 d3, .int .i64 c0, .int .i64 c1, .int .i64 c2, .int .i64 c3, .slice RA rn rc, .slice CA cn cc].toArray 30)).alloc (.cells (Ins.cells ⟨9, a, b, imm⟩).toArray 48)) = w1 at bp bi hb0 ⊢
    have HB1 := Lib.hid hb0
    have HBP1 := Lib.hid bp
    obtain ⟨⟨x0, x1, x2, x3⟩, ⟨x4, x5, x6, x7⟩, x8, x9⟩ := bp.c10
    obtain ⟨y0, y1, y2, y3⟩ := bi.c4
    have HBI1 := Lib.hid bi
    clear hb0 bp bi
    generalize hgp : w.heap.size = gp at HBP1 HBI1 x0 x1 x2 x3 x4 x5 x6 x7 x8 x9 y0 y1 y2 y3 ⊢
    have HGP := Lib.hid hgp
    clear hgp
    go_wp2_with fail
    go_ret
    exact ⟨rfl, HB1.out⟩
  · obtain rfl : r = true := by rw [← HR.out]; simp [fitI]
    go_enter Tryd.func50, Tryd.ntmps50
    go_upto_region 1 with fail
    obtain ⟨bp, bi, hb0⟩ := entryPI w [.int .i64 d0, .int .i64 d1, .int .i64 d2, .int .i64 d3, .int .i64 c0, .int .i64 c1, .int .i64 c2, .int .i64 c3, .slice RA rn rc, .slice CA cn cc] ⟨10, a, b, imm⟩ _ rfl
    change Code.wp _ _ _ _ ((w.alloc (.cells [.int .i64 d0, .int .i64 d1, .int .i64 d2, .int .i64 d3, .int .i64 c0, .int .i64 c1, .int .i64 c2, .int .i64 c3, .slice RA rn rc, .slice CA cn cc].toArray 30)).alloc (.cells (Ins.cells ⟨10, a, b, imm⟩).toArray 48))
    generalize ((w.alloc (.cells [.int .i64 d0, .int .i64 d1, .int .i64 d2, .int .i64 d3, .int .i64 c0, .int .i64 c1, .int .i64 c2, .int .i64 c3, .slice RA rn rc, .slice CA cn cc].toArray 30)).alloc (.cells (Ins.cells ⟨10, a, b, imm⟩).toArray 48)) = w1 at bp bi hb0 ⊢
    have HB1 := Lib.hid hb0
    have HBP1 := Lib.hid bp
    obtain ⟨⟨x0, x1, x2, x3⟩, ⟨x4, x5, x6, x7⟩, x8, x9⟩ := bp.c10
    obtain ⟨y0, y1, y2, y3⟩ := bi.c4
    have HBI1 := Lib.hid bi
    clear hb0 bp bi
    generalize hgp : w.heap.size = gp at HBP1 HBI1 x0 x1 x2 x3 x4 x5 x6 x7 x8 x9 y0 y1 y2 y3 ⊢
    have HGP := Lib.hid hgp
    clear hgp
    go_wp2_with fail
    go_ret
    exact ⟨rfl, HB1.out⟩
  · obtain rfl : r = true := by rw [← HR.out]; simp [fitI]
    go_enter Tryd.func50, Tryd.ntmps50
    go_upto_region 1 with fail
    obtain ⟨bp, bi, hb0⟩ := entryPI w [.int .i64 d0, .int .i64 d1, .int .i64 d2, .int .i64 d3, .int .i64 c0, .int .i64 c1, .int .i64 c2, .int .i64 c3, .slice RA rn rc, .slice CA cn cc] ⟨11, a, b, imm⟩ _ rfl
    change Code.wp _ _ _ _ ((w.alloc (.cells [.int .i64 d0, .int .i64 d1, .int .i64 d2, .int .i64 d3, .int .i64 c0, .int .i64 c1, .int .i64 c2, .int .i64 c3, .slice RA rn rc, .slice CA cn cc].toArray 30)).alloc (.cells (Ins.cells ⟨11, a, b, imm⟩).toArray 48))
    generalize ((w.alloc (.cells [.int .i64 d0, .int .i64 d1, .int .i64 d2, .int .i64 d3, .int .i64 c0, .int .i64 c1, .int .i64 c2, .int .i64 c3, .slice RA rn rc, .slice CA cn cc].toArray 30)).alloc (.cells (Ins.cells ⟨11, a, b, imm⟩).toArray 48)) = w1 at bp bi hb0 ⊢
    have HB1 := Lib.hid hb0
    have HBP1 := Lib.hid bp
    obtain ⟨⟨x0, x1, x2, x3⟩, ⟨x4, x5, x6, x7⟩, x8, x9⟩ := bp.c10
    obtain ⟨y0, y1, y2, y3⟩ := bi.c4
    have HBI1 := Lib.hid bi
    clear hb0 bp bi
    generalize hgp : w.heap.size = gp at HBP1 HBI1 x0 x1 x2 x3 x4 x5 x6 x7 x8 x9 y0 y1 y2 y3 ⊢
    have HGP := Lib.hid hgp
    clear hgp
    go_wp2_with fail
    go_ret
    exact ⟨rfl, HB1.out⟩
end Go.Proofs.YtpmbgcfnehplaaaDoor
end
