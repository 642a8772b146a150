/- fits of the reference of the processor. Printed by gen_s7.py. -/
import Derived.Test.YtdiflpbioohddaaDoorrS6
set_option linter.unusedVariables false
set_option linter.unusedSimpArgs false
namespace Go.Proofs.YtdiflpbioohddaaDoor
open Go.RowKit
theorem rfits_is {b f r o v : Int} {c : Bool} (h : fitsW b f r o v = c) (w : World) : Calls Tryd.prog 33 #[wordV b f r o, .int .i64 v] w fun e w' => e = .returned (.bool c) ∧ Below w.heap.size w w' := by
  rw [← h]; exact rf_Fits _ _ _ _ _ w
theorem ld_prg {ops : Array Oper} {rest : List Oper} {o : Oper} {a : Act} {Q : Exit → Act → World → Prop} {w : World} {g : Nat} {L : List Value} (hb : Box w g L) (hL : L.length = 10) (hgd : o.guard = none) (x : Operand) (ho : o.op = .load 41 x) (hx : a.eval x = .pointer (some ⟨g, 0, none⟩)) (h : wpList Tryd.prog ops Q rest (a.put o.dst (.agg L.toArray)) w) : wpList Tryd.prog ops Q (o :: rest) a w := by
  obtain ⟨d, h1, h2⟩ := row_prgS
  exact wp_ld hgd _ x ho g 0 hx hb L (fun j v hj => by rw [Nat.zero_add]; exact hj) d h1 h2 (by rw [hL]; exact size_prgS) h
set_option maxRecDepth 100000 in
set_option maxHeartbeats 4000000 in
theorem r38_fits (u : PrgA) (i : Ins) (w : World) (hi : i.formed = true) (hp : RingsAt w u.RA u.d.rg) (hl : u.d.rg.length ≤ 8) (hri : ∀ x ∈ u.d.rg, ringIn x = true) (hw : okW u.d.c0 u.d.c1 u.d.c2 u.d.c3 = true) (r : Bool) (hr : fitI u.d i = r) :
    Calls Tryd.prog 105 #[u.v, i.v] w fun e w' => e = .returned (.bool r) ∧ Below w.heap.size w w' := by
  obtain ⟨⟨d0, d1, d2, d3, c0, c1, c2, c3, rg, code⟩, RA, CA, rc, cc⟩ := u
  obtain ⟨op, a, b, imm⟩ := i
  simp only at hp hl hw hri
  obtain ⟨rn, hrn⟩ : ∃ n, rg.length = n := ⟨_, rfl⟩
  obtain ⟨cn, hcn⟩ : ∃ n, code.length = n := ⟨_, rfl⟩
  have hgoal : ∀ {R : Ending → World → Prop}, Calls Tryd.prog 105 #[.agg #[.int .i64 d0, .int .i64 d1, .int .i64 d2, .int .i64 d3, .int .i64 c0, .int .i64 c1, .int .i64 c2, .int .i64 c3, .slice RA rn rc, .slice CA cn cc], .agg #[.int .i64 op, .int .i64 a, .int .i64 b, .int .i64 imm]] w R →
      Calls Tryd.prog 105 #[PrgA.v ⟨⟨d0, d1, d2, d3, c0, c1, c2, c3, rg, code⟩, RA, CA, rc, cc⟩, Ins.v ⟨op, a, b, imm⟩] w R := fun h => by
    unfold PrgA.v PrgA.lst
    simp only [hrn, hcn]
    exact h
  refine hgoal ?_
  clear hgoal
  rw [hrn] at hl
  have hok := okW_iff.1 hw
  have CR : Hid (∀ (w1 : World) (m : Int), Below w.heap.size w w1 → Calls Tryd.prog 113 #[.agg #[.int .i64 d0, .int .i64 d1, .int .i64 d2, .int .i64 d3, .int .i64 c0, .int .i64 c1, .int .i64 c2, .int .i64 c3, .slice RA rn rc, .slice CA cn cc], .int .i64 m] w1 fun e w' => e = .returned (.bool (usdB rg m)) ∧ Below w1.heap.size w1 w') := Lib.hid fun w1 m hb =>
    r38_inRing d0 d1 d2 d3 c0 c1 c2 c3 RA rn rc (.slice CA cn cc) rg m w1 (hp.grow hb) hrn hl hri
  have HP := Lib.hid hp
  have HW := Lib.hid hw
  have HRN := Lib.hid hrn
  have HR := Lib.hid hr
  have HFB := Lib.hid hi
  clear hp hw hrn hcn hr hi hri
  have hc := ops12f HFB.out
  simp only at hc
  rcases hc with rfl | rfl | rfl | rfl | rfl | rfl | rfl | rfl | rfl | rfl | rfl | rfl
  · obtain rfl : r = true := by rw [← HR.out]; simp [fitI]
    go_enter Tryd.func105, Tryd.ntmps105
    go_upto_region 1 with fail
    obtain ⟨bp, bi, hb0⟩ := entryPI w [.int .i64 d0, .int .i64 d1, .int .i64 d2, .int .i64 d3, .int .i64 c0, .int .i64 c1, .int .i64 c2, .int .i64 c3, .slice RA rn rc, .slice CA cn cc] ⟨0, a, b, imm⟩ _ rfl
    change Code.wp _ _ _ _ ((w.alloc (.cells [.int .i64 d0, .int .i64 d1, .int .i64 d2, .int .i64 d3, .int .i64 c0, .int .i64 c1, .int .i64 c2, .int .i64 c3, .slice RA rn rc, .slice CA cn cc].toArray 41)).alloc (.cells (Ins.cells ⟨0, a, b, imm⟩).toArray 109))
    generalize ((w.alloc (.cells [.int .i64 d0, .int .i64 d1, .int .i64 d2, .int .i64 d3, .int .i64 c0, .int .i64 c1, .int .i64 c2, .int .i64 c3, .slice RA rn rc, .slice CA cn cc].toArray 41)).alloc (.cells (Ins.cells ⟨0, a, b, imm⟩).toArray 109)) = w1 at bp bi hb0 ⊢
    have HB1 := Lib.hid hb0
    have HBP1 := Lib.hid bp
    obtain ⟨⟨x0, x1, x2, x3⟩, ⟨x4, x5, x6, x7⟩, x8, x9⟩ := bp.c10
    obtain ⟨y0, y1, y2, y3⟩ := bi.c4
    have HBI1 := Lib.hid bi
    clear hb0 bp bi
    generalize hgp : w.heap.size = gp at HBP1 HBI1 x0 x1 x2 x3 x4 x5 x6 x7 x8 x9 y0 y1 y2 y3 ⊢
    have HGP := Lib.hid hgp
    clear hgp
    go_wp2_with fail
    go_ret
    exact ⟨rfl, HB1.out⟩
  · obtain rfl : r = true := by rw [← HR.out]; simp [fitI]
    go_enter Tryd.func105, Tryd.ntmps105
    go_upto_region 1 with fail
    obtain ⟨bp, bi, hb0⟩ := entryPI w [.int .i64 d0, .int .i64 d1, .int .i64 d2, .int .i64 d3, .int .i64 c0, .int .i64 c1, .int .i64 c2, .int .i64 c3, .slice RA rn rc, .slice CA cn cc] ⟨1, a, b, imm⟩ _ rfl
    change Code.wp _ _ _ _ ((w.alloc (.cells [.int .i64 d0, .int .i64 d1, .int .i64 d2, .int .i64 d3, .int .i64 c0, .int .i64 c1, .int .i64 c2, .int .i64 c3, .slice RA rn rc, .slice CA cn cc].toArray 41)).alloc (.cells (Ins.cells ⟨1, a, b, imm⟩).toArray 109))
    generalize ((w.alloc (.cells [.int .i64 d0, .int .i64 d1, .int .i64 d2, .int .i64 d3, .int .i64 c0, .int .i64 c1, .int .i64 c2, .int .i64 c3, .slice RA rn rc, .slice CA cn cc].toArray 41)).alloc (.cells (Ins.cells ⟨1, a, b, imm⟩).toArray 109)) = w1 at bp bi hb0 ⊢
    have HB1 := Lib.hid hb0
    have HBP1 := Lib.hid bp
    obtain ⟨⟨x0, x1, x2, x3⟩, ⟨x4, x5, x6, x7⟩, x8, x9⟩ := bp.c10
    obtain ⟨y0, y1, y2, y3⟩ := bi.c4
    have HBI1 := Lib.hid bi
    clear hb0 bp bi
    generalize hgp : w.heap.size = gp at HBP1 HBI1 x0 x1 x2 x3 x4 x5 x6 x7 x8 x9 y0 y1 y2 y3 ⊢
    have HGP := Lib.hid hgp
    clear hgp
    go_wp2_with fail
    go_ret
    exact ⟨rfl, HB1.out⟩
  · go_enter Tryd.func105, Tryd.ntmps105
    go_upto_region 1 with fail
    obtain ⟨bp, bi, hb0⟩ := entryPI w [.int .i64 d0, .int .i64 d1, .int .i64 d2, .int .i64 d3, .int .i64 c0, .int .i64 c1, .int .i64 c2, .int .i64 c3, .slice RA rn rc, .slice CA cn cc] ⟨2, a, b, imm⟩ _ rfl
    change Code.wp _ _ _ _ ((w.alloc (.cells [.int .i64 d0, .int .i64 d1, .int .i64 d2, .int .i64 d3, .int .i64 c0, .int .i64 c1, .int .i64 c2, .int .i64 c3, .slice RA rn rc, .slice CA cn cc].toArray 41)).alloc (.cells (Ins.cells ⟨2, a, b, imm⟩).toArray 109))
    generalize ((w.alloc (.cells [.int .i64 d0, .int .i64 d1, .int .i64 d2, .int .i64 d3, .int .i64 c0, .int .i64 c1, .int .i64 c2, .int .i64 c3, .slice RA rn rc, .slice CA cn cc].toArray 41)).alloc (.cells (Ins.cells ⟨2, a, b, imm⟩).toArray 109)) = w1 at bp bi hb0 ⊢
    have HB1 := Lib.hid hb0
    have HBP1 := Lib.hid bp
    obtain ⟨⟨x0, x1, x2, x3⟩, ⟨x4, x5, x6, x7⟩, x8, x9⟩ := bp.c10
    obtain ⟨y0, y1, y2, y3⟩ := bi.c4
    have HBI1 := Lib.hid bi
    clear hb0 bp bi
    generalize hgp : w.heap.size = gp at HBP1 HBI1 x0 x1 x2 x3 x4 x5 x6 x7 x8 x9 y0 y1 y2 y3 ⊢
    have HGP := Lib.hid hgp
    clear hgp
    obtain ⟨P, hP⟩ : ∃ P, (2 : Int) ^ c1.toNat = P := ⟨_, rfl⟩
    have hsh : wrap64 (2 ^ c1.toNat) = P := by rw [← hP]; exact w64_pow (by omega)
    have hc0 : 0 ≤ c1 := by omega
    have hc62 : c1 < 64 := by omega
    obtain ⟨fb, hfb⟩ : ∃ c, fitsW c0 c1 c2 c3 imm = c := ⟨_, rfl⟩
    have HFI := Lib.hid hfb
    have HPP := Lib.hid hP
    clear hfb hP
    cases fb with
    | true =>
      obtain rfl : r = true := by rw [← HR.out]; simp [fitI, HFI.out]
      go_wp2_with (go_at_call 33; (with_reducible refine (rfits_is HFI.out _).mono ?_); rintro e1 w8 ⟨rfl, hb8⟩; obtain ⟨⟨x0, x1, x2, x3⟩, ⟨x4, x5, x6, x7⟩, x8, x9⟩ := (HBP1.out.keep hb8).c10; obtain ⟨y0, y1, y2, y3⟩ := (HBI1.out.keep hb8).c4)
      go_ret
      exact ⟨rfl, below_then HB1.out hb8⟩
    | false =>
      by_cases hi : imm = P
      · obtain rfl : r = true := by rw [← HR.out]; simp [fitI, HPP.out, hi]
        have hi1 : (imm == P) = true := by simpa using hi
        clear hi
        go_wp2_with (go_at_call 33; (with_reducible refine (rfits_is HFI.out _).mono ?_); rintro e1 w8 ⟨rfl, hb8⟩; obtain ⟨⟨x0, x1, x2, x3⟩, ⟨x4, x5, x6, x7⟩, x8, x9⟩ := (HBP1.out.keep hb8).c10; obtain ⟨y0, y1, y2, y3⟩ := (HBI1.out.keep hb8).c4)
        go_ret
        exact ⟨rfl, below_then HB1.out hb8⟩
      · obtain rfl : r = false := by rw [← HR.out]; simp [fitI, HFI.out, HPP.out, hi]
        have hi1 : (imm == P) = false := by simpa using hi
        clear hi
        go_wp2_with (go_at_call 33; (with_reducible refine (rfits_is HFI.out _).mono ?_); rintro e1 w8 ⟨rfl, hb8⟩; obtain ⟨⟨x0, x1, x2, x3⟩, ⟨x4, x5, x6, x7⟩, x8, x9⟩ := (HBP1.out.keep hb8).c10; obtain ⟨y0, y1, y2, y3⟩ := (HBI1.out.keep hb8).c4)
        go_ret
        exact ⟨rfl, below_then HB1.out hb8⟩
  · go_enter Tryd.func105, Tryd.ntmps105
    go_upto_region 1 with fail
    obtain ⟨bp, bi, hb0⟩ := entryPI w [.int .i64 d0, .int .i64 d1, .int .i64 d2, .int .i64 d3, .int .i64 c0, .int .i64 c1, .int .i64 c2, .int .i64 c3, .slice RA rn rc, .slice CA cn cc] ⟨3, a, b, imm⟩ _ rfl
    change Code.wp _ _ _ _ ((w.alloc (.cells [.int .i64 d0, .int .i64 d1, .int .i64 d2, .int .i64 d3, .int .i64 c0, .int .i64 c1, .int .i64 c2, .int .i64 c3, .slice RA rn rc, .slice CA cn cc].toArray 41)).alloc (.cells (Ins.cells ⟨3, a, b, imm⟩).toArray 109))
    generalize ((w.alloc (.cells [.int .i64 d0, .int .i64 d1, .int .i64 d2, .int .i64 d3, .int .i64 c0, .int .i64 c1, .int .i64 c2, .int .i64 c3, .slice RA rn rc, .slice CA cn cc].toArray 41)).alloc (.cells (Ins.cells ⟨3, a, b, imm⟩).toArray 109)) = w1 at bp bi hb0 ⊢
    have HB1 := Lib.hid hb0
    have HBP1 := Lib.hid bp
    obtain ⟨⟨x0, x1, x2, x3⟩, ⟨x4, x5, x6, x7⟩, x8, x9⟩ := bp.c10
    obtain ⟨y0, y1, y2, y3⟩ := bi.c4
    have HBI1 := Lib.hid bi
    clear hb0 bp bi
    generalize hgp : w.heap.size = gp at HBP1 HBI1 x0 x1 x2 x3 x4 x5 x6 x7 x8 x9 y0 y1 y2 y3 ⊢
    have HGP := Lib.hid hgp
    clear hgp
    have CRM := Lib.hid (CR.out w1 a HB1.out)
    obtain ⟨ub, hub⟩ : ∃ c, usdB rg a = c := ⟨_, rfl⟩
    rw [hub] at CRM
    have HUB := Lib.hid hub
    clear hub CR
    cases ub with
    | true =>
      obtain rfl : r = false := by rw [← HR.out]; simp [fitI, HUB.out]
      go_wp2_with (first | ((with_reducible show wpList _ _ _ (Oper.mk _ (.load 41 _) _ _ _ _ :: _) _ _); refine ld_prg HBP1.out rfl rfl _ rfl rfl ?_) | (go_at_call 113; (with_reducible refine CRM.out.mono ?_); rintro e1 w2 ⟨rfl, hb2⟩))
      go_ret
      exact ⟨rfl, below_then HB1.out hb2⟩
    | false =>
      go_upto_region 15 with (first | ((with_reducible show wpList _ _ _ (Oper.mk _ (.load 41 _) _ _ _ _ :: _) _ _); refine ld_prg HBP1.out rfl rfl _ rfl rfl ?_) | (go_at_call 113; (with_reducible refine CRM.out.mono ?_); rintro e1 w2 ⟨rfl, hb2⟩))
      have HB2 := Lib.hid (below_then HB1.out hb2)
      have HBP2 := Lib.hid (HBP1.out.keep hb2)
      have HBI2 := Lib.hid (HBI1.out.keep hb2)
      obtain ⟨⟨x0, x1, x2, x3⟩, ⟨x4, x5, x6, x7⟩, x8, x9⟩ := HBP2.out.c10
      obtain ⟨y0, y1, y2, y3⟩ := HBI2.out.c4
      clear hb2 HB1 HBP1 HBI1 CRM
      obtain ⟨P, hP⟩ : ∃ P, (2 : Int) ^ c1.toNat = P := ⟨_, rfl⟩
      have hsh : wrap64 (2 ^ c1.toNat) = P := by rw [← hP]; exact w64_pow (by omega)
      have hc0 : 0 ≤ c1 := by omega
      have hc62 : c1 < 64 := by omega
      obtain ⟨fb, hfb⟩ : ∃ c, fitsW c0 c1 c2 c3 imm = c := ⟨_, rfl⟩
      have HFI := Lib.hid hfb
      have HPP := Lib.hid hP
      clear hfb hP
      cases fb with
      | true =>
        obtain rfl : r = true := by rw [← HR.out]; simp [fitI, HFI.out, HUB.out]
        go_wp2_with (go_at_call 33; (with_reducible refine (rfits_is HFI.out _).mono ?_); rintro e1 w8 ⟨rfl, hb8⟩; obtain ⟨⟨x0, x1, x2, x3⟩, ⟨x4, x5, x6, x7⟩, x8, x9⟩ := (HBP2.out.keep hb8).c10; obtain ⟨y0, y1, y2, y3⟩ := (HBI2.out.keep hb8).c4)
        go_ret
        exact ⟨rfl, below_then HB2.out hb8⟩
      | false =>
        by_cases hi : imm = P
        · obtain rfl : r = true := by rw [← HR.out]; simp [fitI, HPP.out, hi, HUB.out]
          have hi1 : (imm == P) = true := by simpa using hi
          clear hi
          go_wp2_with (go_at_call 33; (with_reducible refine (rfits_is HFI.out _).mono ?_); rintro e1 w8 ⟨rfl, hb8⟩; obtain ⟨⟨x0, x1, x2, x3⟩, ⟨x4, x5, x6, x7⟩, x8, x9⟩ := (HBP2.out.keep hb8).c10; obtain ⟨y0, y1, y2, y3⟩ := (HBI2.out.keep hb8).c4)
          go_ret
          exact ⟨rfl, below_then HB2.out hb8⟩
        · obtain rfl : r = false := by rw [← HR.out]; simp [fitI, HFI.out, HPP.out, hi, HUB.out]
          have hi1 : (imm == P) = false := by simpa using hi
          clear hi
          go_wp2_with (go_at_call 33; (with_reducible refine (rfits_is HFI.out _).mono ?_); rintro e1 w8 ⟨rfl, hb8⟩; obtain ⟨⟨x0, x1, x2, x3⟩, ⟨x4, x5, x6, x7⟩, x8, x9⟩ := (HBP2.out.keep hb8).c10; obtain ⟨y0, y1, y2, y3⟩ := (HBI2.out.keep hb8).c4)
          go_ret
          exact ⟨rfl, below_then HB2.out hb8⟩
  · obtain ⟨-, ha, hb, -⟩ := formed_parts HFB.out
    simp only at ha hb
    obtain ⟨ka, rfl⟩ := Int.eq_ofNat_of_zero_le ha.1
    obtain ⟨kb, rfl⟩ := Int.eq_ofNat_of_zero_le hb.1
    by_cases hk : ka < rn
    · obtain ⟨xr, hxr⟩ : ∃ x, rg[ka]? = some x := ⟨_, List.getElem?_eq_getElem (by rw [HRN.out]; exact hk)⟩
      obtain ⟨ad, hRA, -, -, -, -⟩ := HP.out ka xr hxr
      subst hRA
      have HXR := Lib.hid hxr
      obtain ⟨xb, xl⟩ := xr
      have hk1 : ¬ (rn : Int) ≤ (ka : Int) := by omega
      have hk2 : decide ((rn : Int) ≤ (ka : Int)) = false := decide_eq_false hk1
      have hk2n : decide (rn ≤ ka) = false := decide_eq_false (by omega)
      have hk1n : ¬ rn ≤ ka := by omega
      have hk3 : (0 : Int) ≤ (ka : Int) := by omega
      have hk4 : (ka : Int) < (rn : Int) := by omega
      clear hxr
      by_cases hkb : (kb : Int) < xl
      · have hkb1 : ¬ xl ≤ (kb : Int) := by omega
        have hkb2 : decide (xl ≤ (kb : Int)) = false := decide_eq_false hkb1
        go_enter Tryd.func105, Tryd.ntmps105
        go_upto_region 1 with fail
        obtain ⟨bp, bi, hb0⟩ := entryPI w [.int .i64 d0, .int .i64 d1, .int .i64 d2, .int .i64 d3, .int .i64 c0, .int .i64 c1, .int .i64 c2, .int .i64 c3, .slice (some ad) rn rc, .slice CA cn cc] ⟨4, ka, kb, imm⟩ _ rfl
        change Code.wp _ _ _ _ ((w.alloc (.cells [.int .i64 d0, .int .i64 d1, .int .i64 d2, .int .i64 d3, .int .i64 c0, .int .i64 c1, .int .i64 c2, .int .i64 c3, .slice (some ad) rn rc, .slice CA cn cc].toArray 41)).alloc (.cells (Ins.cells ⟨4, ka, kb, imm⟩).toArray 109))
        generalize ((w.alloc (.cells [.int .i64 d0, .int .i64 d1, .int .i64 d2, .int .i64 d3, .int .i64 c0, .int .i64 c1, .int .i64 c2, .int .i64 c3, .slice (some ad) rn rc, .slice CA cn cc].toArray 41)).alloc (.cells (Ins.cells ⟨4, ka, kb, imm⟩).toArray 109)) = w1 at bp bi hb0 ⊢
        have HB1 := Lib.hid hb0
        have HBP1 := Lib.hid bp
        obtain ⟨⟨x0, x1, x2, x3⟩, ⟨x4, x5, x6, x7⟩, x8, x9⟩ := bp.c10
        obtain ⟨y0, y1, y2, y3⟩ := bi.c4
        have HBI1 := Lib.hid bi
        clear hb0 bp bi
        generalize hgp : w.heap.size = gp at HBP1 HBI1 x0 x1 x2 x3 x4 x5 x6 x7 x8 x9 y0 y1 y2 y3 ⊢
        have HGP := Lib.hid hgp
        clear hgp
        go_upto_region 4 with fail
        have e1 := HBP1.out.ext (k := 8) (v := .slice (some ad) rn rc) rfl
        have e2 := HBI1.out.ext (k := 1) (v := .int .i64 (ka : Int)) rfl
        have e3 := HBI1.out.ext (k := 2) (v := .int .i64 (kb : Int)) rfl
        obtain ⟨ad1, hA1, -, e4, -, -⟩ := ring_ext (HP.out.grow HB1.out) HXR.out
        injection hA1 with hA1
        subst hA1
        simp only at e4
        refine wp_region_ext (by kernel_rfl) (by kernel_rfl) ?_
        repeat (go_big_quiet_step (fail))
        refine wpQuiet_nil ?_
        rintro w2 ⟨⟨_, hb2⟩, rfl⟩
        have HB2 := Lib.hid (below_then HB1.out hb2)
        have HBP2 := Lib.hid (HBP1.out.keep hb2)
        have HBI2 := Lib.hid (HBI1.out.keep hb2)
        obtain ⟨⟨x0, x1, x2, x3⟩, ⟨x4, x5, x6, x7⟩, x8, x9⟩ := HBP2.out.c10
        obtain ⟨y0, y1, y2, y3⟩ := HBI2.out.c4
        clear e4 hb2 HB1 HBP1 HBI1 e1 e2 e3
        obtain ⟨P, hP⟩ : ∃ P, (2 : Int) ^ c1.toNat = P := ⟨_, rfl⟩
        have hsh : wrap64 (2 ^ c1.toNat) = P := by rw [← hP]; exact w64_pow (by omega)
        have hc0 : 0 ≤ c1 := by omega
        have hc62 : c1 < 64 := by omega
        obtain ⟨fb, hfb⟩ : ∃ c, fitsW c0 c1 c2 c3 imm = c := ⟨_, rfl⟩
        have HFI := Lib.hid hfb
        have HPP := Lib.hid hP
        clear hfb hP
        cases fb with
        | true =>
          obtain rfl : r = true := by rw [← HR.out]; simp [fitI, HFI.out, HRN.out, List.getD_eq_getElem?_getD, HXR.out]; omega
          go_wp2_with (go_at_call 33; (with_reducible refine (rfits_is HFI.out _).mono ?_); rintro e1 w8 ⟨rfl, hb8⟩; obtain ⟨⟨x0, x1, x2, x3⟩, ⟨x4, x5, x6, x7⟩, x8, x9⟩ := (HBP2.out.keep hb8).c10; obtain ⟨y0, y1, y2, y3⟩ := (HBI2.out.keep hb8).c4)
          go_ret
          exact ⟨rfl, below_then HB2.out hb8⟩
        | false =>
          by_cases hi : imm = P
          · obtain rfl : r = true := by rw [← HR.out]; simp [fitI, HPP.out, hi, HRN.out, List.getD_eq_getElem?_getD, HXR.out]; omega
            have hi1 : (imm == P) = true := by simpa using hi
            clear hi
            go_wp2_with (go_at_call 33; (with_reducible refine (rfits_is HFI.out _).mono ?_); rintro e1 w8 ⟨rfl, hb8⟩; obtain ⟨⟨x0, x1, x2, x3⟩, ⟨x4, x5, x6, x7⟩, x8, x9⟩ := (HBP2.out.keep hb8).c10; obtain ⟨y0, y1, y2, y3⟩ := (HBI2.out.keep hb8).c4)
            go_ret
            exact ⟨rfl, below_then HB2.out hb8⟩
          · obtain rfl : r = false := by rw [← HR.out]; simp [fitI, HFI.out, HPP.out, hi]
            have hi1 : (imm == P) = false := by simpa using hi
            clear hi
            go_wp2_with (go_at_call 33; (with_reducible refine (rfits_is HFI.out _).mono ?_); rintro e1 w8 ⟨rfl, hb8⟩; obtain ⟨⟨x0, x1, x2, x3⟩, ⟨x4, x5, x6, x7⟩, x8, x9⟩ := (HBP2.out.keep hb8).c10; obtain ⟨y0, y1, y2, y3⟩ := (HBI2.out.keep hb8).c4)
            go_ret
            exact ⟨rfl, below_then HB2.out hb8⟩
      · obtain rfl : r = false := by rw [← HR.out]; simp [fitI, HRN.out, List.getD_eq_getElem?_getD, HXR.out]; omega
        have hkb1 : xl ≤ (kb : Int) := by omega
        have hkb2 : decide (xl ≤ (kb : Int)) = true := decide_eq_true hkb1
        go_enter Tryd.func105, Tryd.ntmps105
        go_upto_region 1 with fail
        obtain ⟨bp, bi, hb0⟩ := entryPI w [.int .i64 d0, .int .i64 d1, .int .i64 d2, .int .i64 d3, .int .i64 c0, .int .i64 c1, .int .i64 c2, .int .i64 c3, .slice (some ad) rn rc, .slice CA cn cc] ⟨4, ka, kb, imm⟩ _ rfl
        change Code.wp _ _ _ _ ((w.alloc (.cells [.int .i64 d0, .int .i64 d1, .int .i64 d2, .int .i64 d3, .int .i64 c0, .int .i64 c1, .int .i64 c2, .int .i64 c3, .slice (some ad) rn rc, .slice CA cn cc].toArray 41)).alloc (.cells (Ins.cells ⟨4, ka, kb, imm⟩).toArray 109))
        generalize ((w.alloc (.cells [.int .i64 d0, .int .i64 d1, .int .i64 d2, .int .i64 d3, .int .i64 c0, .int .i64 c1, .int .i64 c2, .int .i64 c3, .slice (some ad) rn rc, .slice CA cn cc].toArray 41)).alloc (.cells (Ins.cells ⟨4, ka, kb, imm⟩).toArray 109)) = w1 at bp bi hb0 ⊢
        have HB1 := Lib.hid hb0
        have HBP1 := Lib.hid bp
        obtain ⟨⟨x0, x1, x2, x3⟩, ⟨x4, x5, x6, x7⟩, x8, x9⟩ := bp.c10
        obtain ⟨y0, y1, y2, y3⟩ := bi.c4
        have HBI1 := Lib.hid bi
        clear hb0 bp bi
        generalize hgp : w.heap.size = gp at HBP1 HBI1 x0 x1 x2 x3 x4 x5 x6 x7 x8 x9 y0 y1 y2 y3 ⊢
        have HGP := Lib.hid hgp
        clear hgp
        go_upto_region 4 with fail
        have e1 := HBP1.out.ext (k := 8) (v := .slice (some ad) rn rc) rfl
        have e2 := HBI1.out.ext (k := 1) (v := .int .i64 (ka : Int)) rfl
        have e3 := HBI1.out.ext (k := 2) (v := .int .i64 (kb : Int)) rfl
        obtain ⟨ad1, hA1, -, e4, -, -⟩ := ring_ext (HP.out.grow HB1.out) HXR.out
        injection hA1 with hA1
        subst hA1
        simp only at e4
        refine wp_region_ext (by kernel_rfl) (by kernel_rfl) ?_
        repeat (go_big_quiet_step (fail))
        refine wpQuiet_nil ?_
        rintro w2 ⟨⟨_, hb2⟩, rfl⟩
        have HB2 := Lib.hid (below_then HB1.out hb2)
        have HBP2 := Lib.hid (HBP1.out.keep hb2)
        have HBI2 := Lib.hid (HBI1.out.keep hb2)
        obtain ⟨⟨x0, x1, x2, x3⟩, ⟨x4, x5, x6, x7⟩, x8, x9⟩ := HBP2.out.c10
        obtain ⟨y0, y1, y2, y3⟩ := HBI2.out.c4
        clear hb2 HB1 HBP1 HBI1 e1 e2 e3
        go_wp2_with fail
        go_ret
        exact ⟨rfl, HB2.out⟩
    · obtain rfl : r = false := by rw [← HR.out]; simp [fitI, HRN.out, hk]
      have hk1 : (rn : Int) ≤ (ka : Int) := by omega
      have hk2 : decide ((rn : Int) ≤ (ka : Int)) = true := decide_eq_true hk1
      have hk2n : decide (rn ≤ ka) = true := decide_eq_true (by omega)
      have hk1n : rn ≤ ka := by omega
      go_enter Tryd.func105, Tryd.ntmps105
      go_upto_region 1 with fail
      obtain ⟨bp, bi, hb0⟩ := entryPI w [.int .i64 d0, .int .i64 d1, .int .i64 d2, .int .i64 d3, .int .i64 c0, .int .i64 c1, .int .i64 c2, .int .i64 c3, .slice RA rn rc, .slice CA cn cc] ⟨4, ka, kb, imm⟩ _ rfl
      change Code.wp _ _ _ _ ((w.alloc (.cells [.int .i64 d0, .int .i64 d1, .int .i64 d2, .int .i64 d3, .int .i64 c0, .int .i64 c1, .int .i64 c2, .int .i64 c3, .slice RA rn rc, .slice CA cn cc].toArray 41)).alloc (.cells (Ins.cells ⟨4, ka, kb, imm⟩).toArray 109))
      generalize ((w.alloc (.cells [.int .i64 d0, .int .i64 d1, .int .i64 d2, .int .i64 d3, .int .i64 c0, .int .i64 c1, .int .i64 c2, .int .i64 c3, .slice RA rn rc, .slice CA cn cc].toArray 41)).alloc (.cells (Ins.cells ⟨4, ka, kb, imm⟩).toArray 109)) = w1 at bp bi hb0 ⊢
      have HB1 := Lib.hid hb0
      have HBP1 := Lib.hid bp
      obtain ⟨⟨x0, x1, x2, x3⟩, ⟨x4, x5, x6, x7⟩, x8, x9⟩ := bp.c10
      obtain ⟨y0, y1, y2, y3⟩ := bi.c4
      have HBI1 := Lib.hid bi
      clear hb0 bp bi
      generalize hgp : w.heap.size = gp at HBP1 HBI1 x0 x1 x2 x3 x4 x5 x6 x7 x8 x9 y0 y1 y2 y3 ⊢
      have HGP := Lib.hid hgp
      clear hgp
      go_upto_region 4 with fail
      have e1 := HBP1.out.ext (k := 8) (v := .slice RA rn rc) rfl
      have e2 := HBI1.out.ext (k := 1) (v := .int .i64 (ka : Int)) rfl
      have e3 := HBI1.out.ext (k := 2) (v := .int .i64 (kb : Int)) rfl
      refine wp_region_ext (by kernel_rfl) (by kernel_rfl) ?_
      repeat (go_big_quiet_step (fail))
      refine wpQuiet_nil ?_
      rintro w2 ⟨⟨_, hb2⟩, rfl⟩
      have HB2 := Lib.hid (below_then HB1.out hb2)
      have HBP2 := Lib.hid (HBP1.out.keep hb2)
      have HBI2 := Lib.hid (HBI1.out.keep hb2)
      obtain ⟨⟨x0, x1, x2, x3⟩, ⟨x4, x5, x6, x7⟩, x8, x9⟩ := HBP2.out.c10
      obtain ⟨y0, y1, y2, y3⟩ := HBI2.out.c4
      clear hb2 HB1 HBP1 HBI1 e1 e2 e3
      go_wp2_with fail
      go_ret
      exact ⟨rfl, HB2.out⟩
  · obtain rfl : r = true := by rw [← HR.out]; simp [fitI]
    go_enter Tryd.func105, Tryd.ntmps105
    go_upto_region 1 with fail
    obtain ⟨bp, bi, hb0⟩ := entryPI w [.int .i64 d0, .int .i64 d1, .int .i64 d2, .int .i64 d3, .int .i64 c0, .int .i64 c1, .int .i64 c2, .int .i64 c3, .slice RA rn rc, .slice CA cn cc] ⟨5, a, b, imm⟩ _ rfl
    change Code.wp _ _ _ _ ((w.alloc (.cells [.int .i64 d0, .int .i64 d1, .int .i64 d2, .int .i64 d3, .int .i64 c0, .int .i64 c1, .int .i64 c2, .int .i64 c3, .slice RA rn rc, .slice CA cn cc].toArray 41)).alloc (.cells (Ins.cells ⟨5, a, b, imm⟩).toArray 109))
    generalize ((w.alloc (.cells [.int .i64 d0, .int .i64 d1, .int .i64 d2, .int .i64 d3, .int .i64 c0, .int .i64 c1, .int .i64 c2, .int .i64 c3, .slice RA rn rc, .slice CA cn cc].toArray 41)).alloc (.cells (Ins.cells ⟨5, a, b, imm⟩).toArray 109)) = w1 at bp bi hb0 ⊢
    have HB1 := Lib.hid hb0
    have HBP1 := Lib.hid bp
    obtain ⟨⟨x0, x1, x2, x3⟩, ⟨x4, x5, x6, x7⟩, x8, x9⟩ := bp.c10
    obtain ⟨y0, y1, y2, y3⟩ := bi.c4
    have HBI1 := Lib.hid bi
    clear hb0 bp bi
    generalize hgp : w.heap.size = gp at HBP1 HBI1 x0 x1 x2 x3 x4 x5 x6 x7 x8 x9 y0 y1 y2 y3 ⊢
    have HGP := Lib.hid hgp
    clear hgp
    go_wp2_with fail
    go_ret
    exact ⟨rfl, HB1.out⟩
  · go_enter Tryd.func105, Tryd.ntmps105
    go_upto_region 1 with fail
    obtain ⟨bp, bi, hb0⟩ := entryPI w [.int .i64 d0, .int .i64 d1, .int .i64 d2, .int .i64 d3, .int .i64 c0, .int .i64 c1, .int .i64 c2, .int .i64 c3, .slice RA rn rc, .slice CA cn cc] ⟨6, a, b, imm⟩ _ rfl
    change Code.wp _ _ _ _ ((w.alloc (.cells [.int .i64 d0, .int .i64 d1, .int .i64 d2, .int .i64 d3, .int .i64 c0, .int .i64 c1, .int .i64 c2, .int .i64 c3, .slice RA rn rc, .slice CA cn cc].toArray 41)).alloc (.cells (Ins.cells ⟨6, a, b, imm⟩).toArray 109))
    generalize ((w.alloc (.cells [.int .i64 d0, .int .i64 d1, .int .i64 d2, .int .i64 d3, .int .i64 c0, .int .i64 c1, .int .i64 c2, .int .i64 c3, .slice RA rn rc, .slice CA cn cc].toArray 41)).alloc (.cells (Ins.cells ⟨6, a, b, imm⟩).toArray 109)) = w1 at bp bi hb0 ⊢
    have HB1 := Lib.hid hb0
    have HBP1 := Lib.hid bp
    obtain ⟨⟨x0, x1, x2, x3⟩, ⟨x4, x5, x6, x7⟩, x8, x9⟩ := bp.c10
    obtain ⟨y0, y1, y2, y3⟩ := bi.c4
    have HBI1 := Lib.hid bi
    clear hb0 bp bi
    generalize hgp : w.heap.size = gp at HBP1 HBI1 x0 x1 x2 x3 x4 x5 x6 x7 x8 x9 y0 y1 y2 y3 ⊢
    have HGP := Lib.hid hgp
    clear hgp
    have CRM := Lib.hid (CR.out w1 b HB1.out)
    obtain ⟨ub, hub⟩ : ∃ c, usdB rg b = c := ⟨_, rfl⟩
    rw [hub] at CRM
    have HUB := Lib.hid hub
    clear hub CR
    cases ub with
    | true =>
      obtain rfl : r = false := by rw [← HR.out]; simp [fitI, HUB.out]
      go_wp2_with (first | ((with_reducible show wpList _ _ _ (Oper.mk _ (.load 41 _) _ _ _ _ :: _) _ _); refine ld_prg HBP1.out rfl rfl _ rfl rfl ?_) | (go_at_call 113; (with_reducible refine CRM.out.mono ?_); rintro e1 w2 ⟨rfl, hb2⟩))
      go_ret
      exact ⟨rfl, below_then HB1.out hb2⟩
    | false =>
      obtain rfl : r = true := by rw [← HR.out]; simp [fitI, HUB.out]
      go_wp2_with (first | ((with_reducible show wpList _ _ _ (Oper.mk _ (.load 41 _) _ _ _ _ :: _) _ _); refine ld_prg HBP1.out rfl rfl _ rfl rfl ?_) | (go_at_call 113; (with_reducible refine CRM.out.mono ?_); rintro e1 w2 ⟨rfl, hb2⟩))
      go_ret
      exact ⟨rfl, below_then HB1.out hb2⟩
  · go_enter Tryd.func105, Tryd.ntmps105
    go_upto_region 1 with fail
    obtain ⟨bp, bi, hb0⟩ := entryPI w [.int .i64 d0, .int .i64 d1, .int .i64 d2, .int .i64 d3, .int .i64 c0, .int .i64 c1, .int .i64 c2, .int .i64 c3, .slice RA rn rc, .slice CA cn cc] ⟨7, a, b, imm⟩ _ rfl
    change Code.wp _ _ _ _ ((w.alloc (.cells [.int .i64 d0, .int .i64 d1, .int .i64 d2, .int .i64 d3, .int .i64 c0, .int .i64 c1, .int .i64 c2, .int .i64 c3, .slice RA rn rc, .slice CA cn cc].toArray 41)).alloc (.cells (Ins.cells ⟨7, a, b, imm⟩).toArray 109))
    generalize ((w.alloc (.cells [.int .i64 d0, .int .i64 d1, .int .i64 d2, .int .i64 d3, .int .i64 c0, .int .i64 c1, .int .i64 c2, .int .i64 c3, .slice RA rn rc, .slice CA cn cc].toArray 41)).alloc (.cells (Ins.cells ⟨7, a, b, imm⟩).toArray 109)) = w1 at bp bi hb0 ⊢
    have HB1 := Lib.hid hb0
    have HBP1 := Lib.hid bp
    obtain ⟨⟨x0, x1, x2, x3⟩, ⟨x4, x5, x6, x7⟩, x8, x9⟩ := bp.c10
    obtain ⟨y0, y1, y2, y3⟩ := bi.c4
    have HBI1 := Lib.hid bi
    clear hb0 bp bi
    generalize hgp : w.heap.size = gp at HBP1 HBI1 x0 x1 x2 x3 x4 x5 x6 x7 x8 x9 y0 y1 y2 y3 ⊢
    have HGP := Lib.hid hgp
    clear hgp
    have CRM := Lib.hid (CR.out w1 b HB1.out)
    obtain ⟨ub, hub⟩ : ∃ c, usdB rg b = c := ⟨_, rfl⟩
    rw [hub] at CRM
    have HUB := Lib.hid hub
    clear hub CR
    cases ub with
    | true =>
      obtain rfl : r = false := by rw [← HR.out]; simp [fitI, HUB.out]
      go_wp2_with (first | ((with_reducible show wpList _ _ _ (Oper.mk _ (.load 41 _) _ _ _ _ :: _) _ _); refine ld_prg HBP1.out rfl rfl _ rfl rfl ?_) | (go_at_call 113; (with_reducible refine CRM.out.mono ?_); rintro e1 w2 ⟨rfl, hb2⟩))
      go_ret
      exact ⟨rfl, below_then HB1.out hb2⟩
    | false =>
      obtain rfl : r = true := by rw [← HR.out]; simp [fitI, HUB.out]
      go_wp2_with (first | ((with_reducible show wpList _ _ _ (Oper.mk _ (.load 41 _) _ _ _ _ :: _) _ _); refine ld_prg HBP1.out rfl rfl _ rfl rfl ?_) | (go_at_call 113; (with_reducible refine CRM.out.mono ?_); rintro e1 w2 ⟨rfl, hb2⟩))
      go_ret
      exact ⟨rfl, below_then HB1.out hb2⟩
  · obtain ⟨-, ha, -⟩ := formed_parts HFB.out
    simp only at ha
    obtain ⟨ka, rfl⟩ := Int.eq_ofNat_of_zero_le ha.1
    by_cases hk : ka < rn
    · obtain rfl : r = true := by rw [← HR.out]; simp [fitI, HRN.out]; omega
      have hk1 : (ka : Int) < (rn : Int) := by omega
      have hk2 : decide ((ka : Int) < (rn : Int)) = true := decide_eq_true hk1
      have hk3 : decide (ka < rn) = true := decide_eq_true hk
      go_enter Tryd.func105, Tryd.ntmps105
      go_upto_region 1 with fail
      obtain ⟨bp, bi, hb0⟩ := entryPI w [.int .i64 d0, .int .i64 d1, .int .i64 d2, .int .i64 d3, .int .i64 c0, .int .i64 c1, .int .i64 c2, .int .i64 c3, .slice RA rn rc, .slice CA cn cc] ⟨8, ka, b, imm⟩ _ rfl
      change Code.wp _ _ _ _ ((w.alloc (.cells [.int .i64 d0, .int .i64 d1, .int .i64 d2, .int .i64 d3, .int .i64 c0, .int .i64 c1, .int .i64 c2, .int .i64 c3, .slice RA rn rc, .slice CA cn cc].toArray 41)).alloc (.cells (Ins.cells ⟨8, ka, b, imm⟩).toArray 109))
      generalize ((w.alloc (.cells [.int .i64 d0, .int .i64 d1, .int .i64 d2, .int .i64 d3, .int .i64 c0, .int .i64 c1, .int .i64 c2, .int .i64 c3, .slice RA rn rc, .slice CA cn cc].toArray 41)).alloc (.cells (Ins.cells ⟨8, ka, b, imm⟩).toArray 109)) = w1 at bp bi hb0 ⊢
      have HB1 := Lib.hid hb0
      have HBP1 := Lib.hid bp
      obtain ⟨⟨x0, x1, x2, x3⟩, ⟨x4, x5, x6, x7⟩, x8, x9⟩ := bp.c10
      obtain ⟨y0, y1, y2, y3⟩ := bi.c4
      have HBI1 := Lib.hid bi
      clear hb0 bp bi
      generalize hgp : w.heap.size = gp at HBP1 HBI1 x0 x1 x2 x3 x4 x5 x6 x7 x8 x9 y0 y1 y2 y3 ⊢
      have HGP := Lib.hid hgp
      clear hgp
      go_wp2_with fail
      go_ret
      exact ⟨rfl, HB1.out⟩
    · obtain rfl : r = false := by rw [← HR.out]; simp [fitI, HRN.out]; omega
      have hk1 : ¬ (ka : Int) < (rn : Int) := by omega
      have hk2 : decide ((ka : Int) < (rn : Int)) = false := decide_eq_false hk1
      have hk3 : decide (ka < rn) = false := decide_eq_false hk
      go_enter Tryd.func105, Tryd.ntmps105
      go_upto_region 1 with fail
      obtain ⟨bp, bi, hb0⟩ := entryPI w [.int .i64 d0, .int .i64 d1, .int .i64 d2, .int .i64 d3, .int .i64 c0, .int .i64 c1, .int .i64 c2, .int .i64 c3, .slice RA rn rc, .slice CA cn cc] ⟨8, ka, b, imm⟩ _ rfl
      change Code.wp _ _ _ _ ((w.alloc (.cells [.int .i64 d0, .int .i64 d1, .int .i64 d2, .int .i64 d3, .int .i64 c0, .int .i64 c1, .int .i64 c2, .int .i64 c3, .slice RA rn rc, .slice CA cn cc].toArray 41)).alloc (.cells (Ins.cells ⟨8, ka, b, imm⟩).toArray 109))
      generalize ((w.alloc (.cells [.int .i64 d0, .int .i64 d1, .int .i64 d2, .int .i64 d3, .int .i64 c0, .int .i64 c1, .int .i64 c2, .int .i64 c3, .slice RA rn rc, .slice CA cn cc].toArray 41)).alloc (.cells (Ins.cells ⟨8, ka, b, imm⟩).toArray 109)) = w1 at bp bi hb0 ⊢
      have HB1 := Lib.hid hb0
      have HBP1 := Lib.hid bp
      obtain ⟨⟨x0, x1, x2, x3⟩, ⟨x4, x5, x6, x7⟩, x8, x9⟩ := bp.c10
      obtain ⟨y0, y1, y2, y3⟩ := bi.c4
      have HBI1 := Lib.hid bi
      clear hb0 bp bi
      generalize hgp : w.heap.size = gp at HBP1 HBI1 x0 x1 x2 x3 x4 x5 x6 x7 x8 x9 y0 y1 y2 y3 ⊢
      have HGP := Lib.hid hgp
      clear hgp
      go_wp2_with fail
      go_ret
      exact ⟨rfl, HB1.out⟩
  · obtain rfl : r = true := by rw [← HR.out]; simp [fitI]
    go_enter Tryd.func105, Tryd.ntmps105
    go_upto_region 1 with fail
    obtain ⟨bp, bi, hb0⟩ := entryPI w [.int .i64 d0, .int .i64 d1, .int .i64 d2, .int .i64 d3, .int .i64 c0, .int .i64 c1, .int .i64 c2, .int .i64 c3, .slice RA rn rc, .slice CA cn cc] ⟨9, a, b, imm⟩ _ rfl
    change Code.wp _ _ _ _ ((w.alloc (.cells [.int .i64 d0, .int .i64 d1, .int .i64 d2, .int .i64 d3, .int .i64 c0, .int .i64 c1, .int .i64 c2, .int .i64 c3, .slice RA rn rc, .slice CA cn cc].toArray 41)).alloc (.cells (Ins.cells ⟨9, a, b, imm⟩).toArray 109))
    generalize ((w.alloc (.cells [.int .i64 d0, .int .i64 d1, .int .i64 d2, .int .i64 d3, .int .i64 c0, .int .i64 c1, .int .i64 c2, .int .i64 c3, .slice RA rn rc, .slice CA cn cc].toArray 41)).alloc (.cells (Ins.cells ⟨9, a, b, imm⟩).toArray 109)) = w1 at bp bi hb0 ⊢
    have HB1 := Lib.hid hb0
    have HBP1 := Lib.hid bp
    obtain ⟨⟨x0, x1, x2, x3⟩, ⟨x4, x5, x6, x7⟩, x8, x9⟩ := bp.c10
    obtain ⟨y0, y1, y2, y3⟩ := bi.c4
    have HBI1 := Lib.hid bi
    clear hb0 bp bi
    generalize hgp : w.heap.size = gp at HBP1 HBI1 x0 x1 x2 x3 x4 x5 x6 x7 x8 x9 y0 y1 y2 y3 ⊢
    have HGP := Lib.hid hgp
    clear hgp
    go_wp2_with fail
    go_ret
    exact ⟨rfl, HB1.out⟩
  · obtain rfl : r = true := by rw [← HR.out]; simp [fitI]
    go_enter Tryd.func105, Tryd.ntmps105
    go_upto_region 1 with fail
    obtain ⟨bp, bi, hb0⟩ := entryPI w [.int .i64 d0, .int .i64 d1, .int .i64 d2, .int .i64 d3, .int .i64 c0, .int .i64 c1, .int .i64 c2, .int .i64 c3, .slice RA rn rc, .slice CA cn cc] ⟨10, a, b, imm⟩ _ rfl
    change Code.wp _ _ _ _ ((w.alloc (.cells [.int .i64 d0, .int .i64 d1, .int .i64 d2, .int .i64 d3, .int .i64 c0, .int .i64 c1, .int .i64 c2, .int .i64 c3, .slice RA rn rc, .slice CA cn cc].toArray 41)).alloc (.cells (Ins.cells ⟨10, a, b, imm⟩).toArray 109))
    generalize ((w.alloc (.cells [.int .i64 d0, .int .i64 d1, .int .i64 d2, .int .i64 d3, .int .i64 c0, .int .i64 c1, .int .i64 c2, .int .i64 c3, .slice RA rn rc, .slice CA cn cc].toArray 41)).alloc (.cells (Ins.cells ⟨10, a, b, imm⟩).toArray 109)) = w1 at bp bi hb0 ⊢
    have HB1 := Lib.hid hb0
    have HBP1 := Lib.hid bp
    obtain ⟨⟨x0, x1, x2, x3⟩, ⟨x4, x5, x6, x7⟩, x8, x9⟩ := bp.c10
    obtain ⟨y0, y1, y2, y3⟩ := bi.c4
    have HBI1 := Lib.hid bi
    clear hb0 bp bi
    generalize hgp : w.heap.size = gp at HBP1 HBI1 x0 x1 x2 x3 x4 x5 x6 x7 x8 x9 y0 y1 y2 y3 ⊢
    have HGP := Lib.hid hgp
    clear hgp
    go_wp2_with fail
    go_ret
    exact ⟨rfl, HB1.out⟩
  · obtain rfl : r = true := by rw [← HR.out]; simp [fitI]
    go_enter Tryd.func105, Tryd.ntmps105
    go_upto_region 1 with fail
    obtain ⟨bp, bi, hb0⟩ := entryPI w [.int .i64 d0, .int .i64 d1, .int .i64 d2, .int .i64 d3, .int .i64 c0, .int .i64 c1, .int .i64 c2, .int .i64 c3, .slice RA rn rc, .slice CA cn cc] ⟨11, a, b, imm⟩ _ rfl
    change Code.wp _ _ _ _ ((w.alloc (.cells [.int .i64 d0, .int .i64 d1, .int .i64 d2, .int .i64 d3, .int .i64 c0, .int .i64 c1, .int .i64 c2, .int .i64 c3, .slice RA rn rc, .slice CA cn cc].toArray 41)).alloc (.cells (Ins.cells ⟨11, a, b, imm⟩).toArray 109))
    generalize ((w.alloc (.cells [.int .i64 d0, .int .i64 d1, .int .i64 d2, .int .i64 d3, .int .i64 c0, .int .i64 c1, .int .i64 c2, .int .i64 c3, .slice RA rn rc, .slice CA cn cc].toArray 41)).alloc (.cells (Ins.cells ⟨11, a, b, imm⟩).toArray 109)) = w1 at bp bi hb0 ⊢
    have HB1 := Lib.hid hb0
    have HBP1 := Lib.hid bp
    obtain ⟨⟨x0, x1, x2, x3⟩, ⟨x4, x5, x6, x7⟩, x8, x9⟩ := bp.c10
    obtain ⟨y0, y1, y2, y3⟩ := bi.c4
    have HBI1 := Lib.hid bi
    clear hb0 bp bi
    generalize hgp : w.heap.size = gp at HBP1 HBI1 x0 x1 x2 x3 x4 x5 x6 x7 x8 x9 y0 y1 y2 y3 ⊢
    have HGP := Lib.hid hgp
    clear hgp
    go_wp2_with fail
    go_ret
    exact ⟨rfl, HB1.out⟩
end Go.Proofs.YtdiflpbioohddaaDoor
