/- Several texts in one: S5 S6 S7 S9. -/
import Derived.Test.YtdiflpbioohddaaDoortS4
import Derived.Test.YtdiflpbioohddaaDoortT3toE7
import Derived.Test.YtdiflpbioohddaaDoortI1toE12
set_option linter.unusedVariables false
set_option linter.unusedSimpArgs false
section
namespace Go.Proofs.YtdiflpbioohddaaDoor
open Go.RowKit
def RetChk (w : World) (d : PrgD) (e : Ending) (w' : World) : Prop := e = .returned (.tuple #[.int .i64 (chkF d).1, .int .i64 (chkF d).2]) ∧ Below w.heap.size w w'
theorem RetChk.mk {w w' : World} {d : PrgD} {a b : Int} (h : chkF d = (a, b)) (hb : Below w.heap.size w w') : RetChk w d (.returned (.tuple #[.int .i64 a, .int .i64 b])) w' := ⟨by rw [h], hb⟩
def BoxB (w : World) (g : Nat) (l : List Bool) : Prop := Box w g (l.map Value.bool)
theorem BoxB.cell {w : World} {g k : Nat} {l : List Bool} {b : Bool} (h : BoxB w g l) (hk : l[k]? = some b) : w.cell? ⟨g, k, none⟩ = some (.bool b) := by
 rw [h.2.1 k, List.getElem?_map, hk]; rfl
theorem BoxB.free {w : World} {g : Nat} {l : List Bool} (h : BoxB w g l) (k : Nat) : w.frozen? ⟨g, k, none⟩ = false := h.2.2 k
theorem BoxB.keep {w w' : World} {g : Nat} {l : List Bool} (h : BoxB w g l) (hb : Below w.heap.size w w') : BoxB w' g l := Box.keep h hb
theorem BoxB.set {w : World} {g k : Nat} {l : List Bool} {b : Bool} (h : BoxB w g l) (hk : k < l.length) : BoxB (w.setCell ⟨g, k, none⟩ (.bool b)) g (l.set k b) := by
 unfold BoxB
 rw [List.map_set]
 exact Box.set h (by rw [List.length_map]; exact hk)
theorem entryP (w : World) (L : List Value) : ∀ W, W = (w.alloc (.cells L.toArray 41)) → Box W w.heap.size L ∧ Below w.heap.size w W := fun W hW => by
 subst hW
 exact ⟨Box.new rfl, (Below.refl w.heap.size w).alloc (Nat.le_refl _) _⟩
theorem size_prgS : (Tryd.prog.info? 41).map (·.size) = some 10 := by kernel_rfl
theorem row_prgS : ∃ d, Tryd.prog.underlying 41 = some d ∧ d.isRow = true := ⟨_, Tryd.underlying41, rfl⟩
theorem qld_prg {ops : Array Oper} {rest : List Oper} {o : Oper} {a : Act} {Q : Act → Prop} {W : World} {g : Nat} {L : List Value} (hb : Box W g L) (hL : L.length = 10) (hw : Region.wanted o (yielded ops a.tmps) = true) (x : Operand) (ho : o.op = .load 41 x) (hx : a.eval x = .pointer (some ⟨g, 0, none⟩)) (h : wpQuiet Tryd.prog ops (fun w' => ∃ n : Ext W, w' = n.to) Q rest (a.put o.dst (.agg L.toArray))) : wpQuiet Tryd.prog ops (fun w' => ∃ n : Ext W, w' = n.to) Q (o :: rest) a := by
 obtain ⟨d, h1, h2⟩ := row_prgS
 refine qld_mid hw _ x ho g 0 hx L d (fun w hw' => ?_) h1 h2 (by rw [hL]; exact size_prgS) h
 obtain ⟨n, rfl⟩ := hw'
 intro j v hj
 rw [Nat.zero_add]
 exact hb.ext hj n
theorem qld_insB {ops : Array Oper} {rest : List Oper} {o : Oper} {a : Act} {Q : Act → Prop} {W : World} {g : Nat} {i : Ins} (hb : Box W g i.cells) (hw : Region.wanted o (yielded ops a.tmps) = true) (x : Operand) (ho : o.op = .load 109 x) (hx : a.eval x = .pointer (some ⟨g, 0, none⟩)) (h : wpQuiet Tryd.prog ops (fun w' => ∃ n : Ext W, w' = n.to) Q rest (a.put o.dst i.v)) : wpQuiet Tryd.prog ops (fun w' => ∃ n : Ext W, w' = n.to) Q (o :: rest) a := by
 obtain ⟨d, h1, h2⟩ := row_ins
 refine qld_mid hw _ x ho g 0 hx i.cells d (fun w hw' => ?_) h1 h2 size_ins h
 obtain ⟨n, rfl⟩ := hw'
 intro j v hj
 rw [Nat.zero_add]
 exact hb.ext hj n
theorem st_ring {ops : Array Oper} {rest : List Oper} {o : Oper} {a : Act} {Q : Exit → Act → World → Prop} {w : World} {x0 x1 y0 y1 : Int} {g : Nat} (hb : Box w g [.int .i64 x0, .int .i64 x1]) (hgd : o.guard = none) (x y : Operand) (ho : o.op = .store 96 x y) (hx : a.eval x = .pointer (some ⟨g, 0, none⟩)) (hy : a.eval y = .agg #[.int .i64 y0, .int .i64 y1])
  (h : ∀ W1, Box W1 g [.int .i64 y0, .int .i64 y1] → w.grownBy W1 (some g) → wpList Tryd.prog ops Q rest (a.put o.dst undef) W1) : wpList Tryd.prog ops Q (o :: rest) a w :=
 wp_st hgd _ x y ho g 0 [.int .i64 y0, .int .i64 y1] hx hy size_ring rfl hb (by show 0 + 2 ≤ 2; omega) rfl h
theorem marks0 : (Array.replicate 128 (Value.bool false)).toList = (markF [] 0 0).map Value.bool := by kernel_rfl
def ckR (w : World) (gp gu rn : Nat) (L : List Value) (rg : List (Int × Int)) (x : Value) (wr : World) : Prop :=
 ∃ k : Nat, k ≤ rn ∧ x = .int .i64 k ∧ Hid (Below w.heap.size w wr) ∧ Hid (Box wr gp L) ∧ Hid (BoxB wr gu (markF (rg.take k) 0 0)) ∧ Hid (ringsK rg k = true)
def ckU (w : World) (gp gu gr m : Nat) (L : List Value) (l : List (Int × Int)) (xb xl : Int) (x : Value) (wr : World) : Prop :=
 ∃ k : Nat, k ≤ m ∧ x = .int .i64 k ∧ Hid (Below w.heap.size w wr) ∧ Hid (Box wr gp L) ∧ Hid (BoxB wr gu (markF l xb k)) ∧ Hid (Box wr gr [.int .i64 xb, .int .i64 xl]) ∧ Hid (∀ t : Nat, t < k → usdB l (xb + t) = false)
def ckC (w : World) (gp gu cn : Nat) (L : List Value) (rg : List (Int × Int)) (d : PrgD) (x : Value) (wr : World) : Prop :=
 ∃ k : Nat, k ≤ cn ∧ x = .int .i64 k ∧ Hid (Below w.heap.size w wr) ∧ Hid (Box wr gp L) ∧ Hid (BoxB wr gu (markF rg 0 0)) ∧ Hid (∀ j, j < k → goodAt d j = true)
set_option maxRecDepth 100000 in
set_option maxHeartbeats 8000000 in
theorem pr_Check (u : PrgA) (w : World) (hf : FormsAt w) (hp : PrgAt w u) (hr9 : u.d.rg.length ≤ 9223372036854775807) (hc9 : u.d.code.length ≤ 9223372036854775807) :
  Calls Tryd.prog 71 #[u.v] w (RetChk w u.d) := by
 obtain ⟨⟨d0, d1, d2, d3, c0, c1, c2, c3, rg, code⟩, RA, CA, rc, cc⟩ := u
 obtain ⟨hra, hca⟩ := hp
 simp only at hra hca hr9 hc9
 obtain ⟨rn, hrn⟩ : ∃ n, rg.length = n := ⟨_, rfl⟩
 obtain ⟨cn, hcn⟩ : ∃ n, code.length = n := ⟨_, rfl⟩
 obtain ⟨PD, hPD⟩ : ∃ x : PrgD, x = ⟨d0, d1, d2, d3, c0, c1, c2, c3, rg, code⟩ := ⟨_, rfl⟩
 have hgoal : Calls Tryd.prog 71 #[.agg #[.int .i64 d0, .int .i64 d1, .int .i64 d2, .int .i64 d3, .int .i64 c0, .int .i64 c1, .int .i64 c2, .int .i64 c3, .slice RA rn rc, .slice CA cn cc]] w (RetChk w PD) →
   Calls Tryd.prog 71 #[PrgA.v ⟨⟨d0, d1, d2, d3, c0, c1, c2, c3, rg, code⟩, RA, CA, rc, cc⟩] w (RetChk w (PrgA.d ⟨⟨d0, d1, d2, d3, c0, c1, c2, c3, rg, code⟩, RA, CA, rc, cc⟩)) := fun h => by
  unfold PrgA.v PrgA.lst
  simp only [hrn, hcn]
  rw [← hPD]
  exact h
 refine hgoal ?_
 clear hgoal
 rw [hrn] at hr9
 rw [hcn] at hc9
 obtain ⟨oD, hoD⟩ : ∃ c, okW d0 d1 d2 d3 = c := ⟨_, rfl⟩
 obtain ⟨oC, hoC⟩ : ∃ c, okW c0 c1 c2 c3 = c := ⟨_, rfl⟩
 have HV : Hid (okWD PD = (oD && oC)) := by rw [hPD]; unfold okWD; simp only; rw [hoD, hoC]; exact Lib.hid rfl
 have HD := Lib.hid hoD
 have HC := Lib.hid hoC
 have HF := Lib.hid hf
 have HRA := Lib.hid hra
 have HCA := Lib.hid hca
 have HRN := Lib.hid hrn
 have HCN := Lib.hid hcn
 have HPD := Lib.hid hPD
 clear hoD hoC hf hra hca hrn hcn hPD
 cases oD with
 | false =>
  go_enter Tryd.func71, Tryd.ntmps71
  go_wp2_with (go_at_call 67; (with_reducible refine (fx_Valid_is HD.out _).mono ?_); rintro e1 w1 ⟨rfl, hb1⟩)
  go_ret2
  exact RetChk.mk (chk_words HV.out) (((Below.refl _ _).alloc (Nat.le_refl _) _).trans (hb1.mono (by simp)))
 | true =>
  go_enter Tryd.func71, Tryd.ntmps71
  go_upto_region 1 with fail
  obtain ⟨bp, hb0⟩ := entryP w [.int .i64 d0, .int .i64 d1, .int .i64 d2, .int .i64 d3, .int .i64 c0, .int .i64 c1, .int .i64 c2, .int .i64 c3, .slice RA rn rc, .slice CA cn cc] _ rfl
  change Code.wp _ _ _ _ (w.alloc (.cells [.int .i64 d0, .int .i64 d1, .int .i64 d2, .int .i64 d3, .int .i64 c0, .int .i64 c1, .int .i64 c2, .int .i64 c3, .slice RA rn rc, .slice CA cn cc].toArray 41))
  generalize (w.alloc (.cells [.int .i64 d0, .int .i64 d1, .int .i64 d2, .int .i64 d3, .int .i64 c0, .int .i64 c1, .int .i64 c2, .int .i64 c3, .slice RA rn rc, .slice CA cn cc].toArray 41)) = W0 at bp hb0 ⊢
  have HB0 := Lib.hid hb0
  obtain ⟨⟨x0, x1, x2, x3⟩, ⟨x4, x5, x6, x7⟩, x8, x9⟩ := bp.c10
  have HBP0 := Lib.hid bp
  clear hb0 bp
  generalize hgp : w.heap.size = gp at HBP0 x0 x1 x2 x3 x4 x5 x6 x7 x8 x9 ⊢
  have HGP := Lib.hid hgp
  clear hgp
  obtain ⟨L, hL⟩ : ∃ L : List Value, [.int .i64 d0, .int .i64 d1, .int .i64 d2, .int .i64 d3, .int .i64 c0, .int .i64 c1, .int .i64 c2, .int .i64 c3, .slice RA rn rc, .slice CA cn cc] = L := ⟨_, rfl⟩
  rw [hL] at HBP0
  have HL := Lib.hid hL
  clear hL
  cases oC with
  | false =>
   go_wp2_with (go_at_call 67; (first
    | ((with_reducible refine (fx_Valid_is HD.out _).mono ?_); rintro e1 w1 ⟨rfl, hb1⟩; have hk1 := HBP0.out.keep hb1; rw [← HL.out] at hk1; obtain ⟨⟨x0, x1, x2, x3⟩, ⟨x4, x5, x6, x7⟩, x8, x9⟩ := hk1.c10)
    | ((with_reducible refine (fx_Valid_is HC.out _).mono ?_); rintro e1 w2 ⟨rfl, hb2⟩)))
   go_ret2
   exact RetChk.mk (chk_words HV.out) (below_then (below_then HB0.out hb1) hb2)
  | true =>
   go_upto_region 3 with (go_at_call 67; (first
    | ((with_reducible refine (fx_Valid_is HD.out _).mono ?_); rintro e1 w1 ⟨rfl, hb1⟩; have hk1 := HBP0.out.keep hb1; rw [← HL.out] at hk1; obtain ⟨⟨x0, x1, x2, x3⟩, ⟨x4, x5, x6, x7⟩, x8, x9⟩ := hk1.c10)
    | ((with_reducible refine (fx_Valid_is HC.out _).mono ?_); rintro e1 w2 ⟨rfl, hb2⟩)))
   have HB2 := Lib.hid (below_then (below_then HB0.out hb1) hb2)
   have HBP2 := Lib.hid ((HBP0.out.keep hb1).keep hb2)
   have hk2 := HBP2.out
   rw [← HL.out] at hk2
   obtain ⟨⟨x0, x1, x2, x3⟩, ⟨x4, x5, x6, x7⟩, x8, x9⟩ := hk2.c10
   clear hb1 hb2 hk1 hk2 HBP0 HB0
   have HV1 : Hid (okWD PD = true) := HV
   have HRG : Hid (PD.rg = rg) := by rw [HPD.out]; exact Lib.hid rfl
   have HCO : Hid (PD.code = code) := by rw [HPD.out]; exact Lib.hid rfl
   by_cases h8 : rn ≤ 8
   ·have h81 : ¬ (8 : Int) < (rn : Int) := by omega
    go_upto_region 6 with fail
    have bu : BoxB (w2.alloc (.cells (Array.replicate 128 (.bool false)) 152)) w2.heap.size (markF [] 0 0) := by
     have h : Box (w2.alloc (.cells (Array.replicate 128 (.bool false)) 152)) w2.heap.size (Array.replicate 128 (Value.bool false)).toList := Box.new rfl
     rw [marks0] at h
     exact h
    have HB3 := Lib.hid (HB2.out.alloc HB2.out.size (.cells (Array.replicate 128 (.bool false)) 152))
    have HBP3 := Lib.hid (HBP2.out.alloc (.cells (Array.replicate 128 (.bool false)) 152))
    have HBU3 := Lib.hid bu
    have HGU : Hid (gp < w2.heap.size) := Lib.hid HBP2.out.1
    clear bu HB2 HBP2
    change Code.wp _ _ _ _ (w2.alloc (.cells (Array.replicate 128 (.bool false)) 152))
    generalize (w2.alloc (.cells (Array.replicate 128 (.bool false)) 152)) = w3 at HB3 HBP3 HBU3 ⊢
    generalize w2.heap.size = gu at HBU3 HGU ⊢
    have hk3 := HBP3.out
    rw [← HL.out] at hk3
    obtain ⟨⟨x0, x1, x2, x3⟩, ⟨x4, x5, x6, x7⟩, x8, x9⟩ := hk3.c10
    clear hk3
    go_wp2_with fail
    clear x0 x1 x2 x3 x4 x5 x6 x7 x8 x9
    go_loopw [28] (fun x wr => ckR w gp gu rn L rg x wr) (fun x _ => rn - (intOf x).toNat)
    case atStart => exact ⟨0, Nat.zero_le _, rfl, HB3, HBP3, HBU3, Lib.hid rfl⟩
    case round =>
     obtain ⟨k, hk, rfl, HB, HBP, HBU, HRK⟩ := hrel
     by_cases hlt : k < rn
     ·obtain ⟨⟨xb, xl⟩, hx⟩ : ∃ x, rg[k]? = some x := ⟨_, List.getElem?_eq_getElem (by rw [HRN.out]; exact hlt)⟩
      obtain ⟨ad, hRA, hs, hb, hr, hok⟩ := (HRA.out.grow HB.out) k (xb, xl) hx
      obtain ⟨r0, r1⟩ := ring_cells hs hr
      simp only at r0 r1
      subst hRA
      obtain ⟨⟨i1, i2⟩, ⟨i3, i4⟩⟩ := hok
      simp only at i1 i2 i3 i4
      have hgd : rg.getD k (0, 0) = (xb, xl) := by rw [List.getD_eq_getElem?_getD, hx]; rfl
      have htk := take_snoc' hx
      have HX := Lib.hid hgd
      have HTK := Lib.hid htk
      have q1 : (0 : Int) ≤ (k : Int) := by omega
      have q2 : (k : Int) < (rn : Int) := by omega
      have wk : IntKind.i64.wrap ((k : Int) + 1) = ((k + 1 : Nat) : Int) := (IntWalk.i64_in _ (by omega)).trans (by omega)
      clear hgd htk hx hs hb hr
      go_upto_region 9 with (first
       | ((with_reducible show wpList _ _ _ (Oper.mk _ (.store 96 _ _) _ _ _ _ :: _) _ _); refine st_ring (w := wr.alloc (.cells #[.int .i64 0, .int .i64 0] 96)) (g := wr.heap.size) (Box.new rfl) rfl _ _ rfl rfl rfl ?_; intro W2 b2 p2))
      have hb2 := put_facts ((Below.refl wr.heap.size wr).alloc (Nat.le_refl _) (.cells #[.int .i64 0, .int .i64 0] 96)) (Nat.le_refl _) p2
      have HB2 := Lib.hid (below_then HB.out hb2)
      have HBP2 := Lib.hid (HBP.out.keep hb2)
      have HBU2 := Lib.hid (HBU.out.keep hb2)
      have HGR : Hid (gu < wr.heap.size) := Lib.hid HBU.out.1
      have HGB : Hid (w.heap.size ≤ wr.heap.size) := Lib.hid HB.out.size
      have HBR2 := Lib.hid b2
      obtain ⟨y0, y1⟩ := b2.c2
      clear b2 p2 hb2 HB HBP HBU r0 r1
      generalize wr.heap.size = gr at HGR HGB HBR2 y0 y1 ⊢
      have HRK1 : Hid (ringsK rg (k + 1) = false → chkF PD = (-1, 23)) := Lib.hid fun h => chk_rings HV1.out (by rw [HRG.out]; exact ringsB_no (k := k + 1) (by rw [HRN.out]; omega) h)
      have HRI : Hid (ringIn (xb, xl) = false → chkF PD = (-1, 23)) := Lib.hid fun h => HRK1.out (by unfold ringsK; rw [HX.out, h]; simp)
      have hbad : ∀ h : ¬ (1 ≤ xl ∧ xl ≤ 128 ∧ 0 ≤ xb ∧ xb ≤ 128 - xl), chkF PD = (-1, 23) := fun h => HRI.out (by unfold ringIn; exact decide_eq_false h)
      have HBAD := Lib.hid hbad
      clear hbad HRI
      by_cases h1 : xl < 1
      ·have g1 : decide (xl < 1) = true := decide_eq_true h1
       go_wp2_with fail
       go_ret2
       exact RetChk.mk (HBAD.out (by omega)) HB2.out
      have g1 : decide (xl < 1) = false := decide_eq_false h1
      by_cases h2 : 128 < xl
      ·have g2 : decide (128 < xl) = true := decide_eq_true h2
       go_wp2_with fail
       go_ret2
       exact RetChk.mk (HBAD.out (by omega)) HB2.out
      have g2 : decide (128 < xl) = false := decide_eq_false h2
      by_cases h3 : xb < 0
      ·have g3 : decide (xb < 0) = true := decide_eq_true h3
       go_wp2_with fail
       go_ret2
       exact RetChk.mk (HBAD.out (by omega)) HB2.out
      have g3 : decide (xb < 0) = false := decide_eq_false h3
      have w1 : IntKind.i64.wrap (128 - xl) = 128 - xl := IntWalk.i64_in _ (by omega)
      by_cases h4 : 128 - xl < xb
      ·have g4 : decide (128 - xl < xb) = true := decide_eq_true h4
       go_wp2_with fail
       go_ret2
       exact RetChk.mk (HBAD.out (by omega)) HB2.out
      have g4 : decide (128 - xl < xb) = false := decide_eq_false h4
      obtain ⟨m, hm⟩ := Int.eq_ofNat_of_zero_le (show 0 ≤ xl by omega)
      obtain ⟨q, hq⟩ := Int.eq_ofNat_of_zero_le (show 0 ≤ xb by omega)
      have HRI : Hid (ringIn (xb, xl) = true) := Lib.hid (ringIn_iff.2 (by simp only; omega))
      clear HBAD
      subst hm hq
      go_wp2_with fail
      clear g1 g2 g3 g4 h1 h2 h3 h4 w1
      go_loopw [55] (fun x wx => ckU w gp gu gr m L (rg.take k) (q : Int) (m : Int) x wx) (fun x _ => m - (intOf x).toNat)
      case atStart => exact ⟨0, Nat.zero_le _, rfl, HB2, HBP2, by rw [markF_zero _ _ 0]; exact HBU2, HBR2, Lib.hid fun t ht => by omega⟩
      case round =>
       obtain ⟨j, hj, rfl, HBj, HBPj, HBUj, HBRj, HNO⟩ := hrel
       obtain ⟨y0, y1⟩ := HBRj.out.c2
       by_cases hjm : j < m
       ·obtain ⟨p, hp⟩ : ∃ p : Nat, q + j = p := ⟨_, rfl⟩
        have hp8 : p < 128 := by
         have := ringIn_iff.1 HRI.out
         simp only at this
         omega
        have wp : IntKind.i64.wrap ((q : Int) + (j : Int)) = (p : Int) := (IntWalk.i64_in _ (by omega)).trans (by omega)
        have p1 : (0 : Int) ≤ (p : Int) := by omega
        have p2 : (p : Int) < 128 := by omega
        have j1 : (j : Int) < (m : Int) := by omega
        obtain ⟨ub, hub⟩ : ∃ c, usdB (rg.take k) (p : Int) = c := ⟨_, rfl⟩
        have hmk : (markF (rg.take k) (q : Int) j)[p]? = some ub := by
         rw [markF_get hp8, hub]
         have : inR (p : Int) ((q : Int), (j : Int)) = false := by unfold inR; rw [decide_eq_false_iff_not]; simp only; omega
         rw [this, Bool.or_false]
        have z9 := HBUj.out.cell hmk
        have z8 := HBUj.out.free p
        have HP := Lib.hid hp
        have HUB := Lib.hid hub
        have wj : IntKind.i64.wrap ((j : Int) + 1) = ((j + 1 : Nat) : Int) := (IntWalk.i64_in _ (by omega)).trans (by omega)
        clear hmk hp hub
        cases ub with
        | true =>
         go_wp2_with fail
         go_ret2
         refine RetChk.mk (HRK1.out ?_) HBj.out
         unfold ringsK
         rw [HX.out, HRI.out]
         have hc : (rg.take k).any (clash ((q : Int), (m : Int))) = true := (clash_used (by simp only; omega) fun y hy => by
          have := ringIn_iff.1 (ringsK_all HRK.out (by rw [HRN.out]; omega) y hy)
          omega).2 ⟨j, by simp only; omega, by
           have h2 := HUB.out
           rw [← HP.out] at h2
           rw [← h2]; rfl⟩
         rw [hc]; simp
        | false =>
         go_wp2_with fail
         go_roundw
         case rel => exact ⟨j + 1, by omega, by go_num, Lib.hid (below_set HBj.out (by have := HGU.out; have := HGP.out; omega)), Lib.hid (HBPj.out.past (by have := HGU.out; omega)), by
          have h := HBUj.out.set (k := p) (b := true) (by rw [markF_len]; exact hp8)
          rw [markF_next (by rw [← HP.out]; omega) hp8] at h
          exact h, Lib.hid (HBRj.out.past (by have := HGR.out; omega)), Lib.hid fun t ht => by
           by_cases e : t = j
           ·rw [e]
            have h2 := HUB.out
            rw [← HP.out] at h2
            rw [← h2]; rfl
           ·exact HNO.out t (by omega)⟩
         case measure => simp [intOf]; omega
       ·obtain rfl : j = m := by omega
        go_wp2_with fail
        go_roundw
        case rel => exact ⟨k + 1, by omega, by go_num, HBj, HBPj, by
         rw [HTK.out, ← markF_ring (x := ((q : Int), (j : Int))) (n := j) rfl]
         exact HBUj, by
         unfold ringsK
         rw [HRK.out, HX.out, HRI.out]
         have hc : (rg.take k).any (clash ((q : Int), (j : Int))) = false := by
          rw [Bool.eq_false_iff]
          intro h
          obtain ⟨t, ht, hu⟩ := (clash_used (by have := ringIn_iff.1 HRI.out; simp only at this ⊢; omega) fun y hy => by
           have := ringIn_iff.1 (ringsK_all HRK.out (by rw [HRN.out]; omega) y hy)
           omega).1 h
          simp only at ht
          have := HNO.out t (by omega)
          rw [this] at hu; cases hu
         rw [hc]
         exact Lib.hid rfl⟩
        case measure => simp [intOf]; omega
     ·obtain rfl : k = rn := by omega
      have HBU1 : Hid (BoxB wr gu (markF rg 0 0)) := by
       have h := HBU.out
       rw [List.take_of_length_le (by rw [HRN.out]; exact Nat.le_refl _)] at h
       exact Lib.hid h
      have HRB : Hid (ringsB PD.rg = true) := by
       rw [HRG.out]
       unfold ringsB
       rw [HRN.out, HRK.out, decide_eq_true h8]
       exact Lib.hid rfl
      have hk3 := HBP.out
      rw [← HL.out] at hk3
      obtain ⟨⟨x0, x1, x2, x3⟩, ⟨x4, x5, x6, x7⟩, x8, x9⟩ := hk3.c10
      clear hk3 HBU hlt
      by_cases hc1 : cn < 1
      ·have g1 : decide ((cn : Int) < 1) = true := decide_eq_true (by omega)
       go_wp2_with fail
       go_ret2
       exact RetChk.mk (chk_many HV1.out HRB.out (by rw [HCO.out, HCN.out]; exact inB_no.2 (by omega))) HB.out
      have g1 : decide ((cn : Int) < 1) = false := decide_eq_false (by omega)
      by_cases hc2 : 512 < cn
      ·have g2 : decide ((512 : Int) < (cn : Int)) = true := decide_eq_true (by omega)
       go_wp2_with fail
       go_ret2
       exact RetChk.mk (chk_many HV1.out HRB.out (by rw [HCO.out, HCN.out]; exact inB_no.2 (by omega))) HB.out
      have g2 : decide ((512 : Int) < (cn : Int)) = false := decide_eq_false (by omega)
      have HIN : Hid (inB PD.code.length 1 512 = true) := by rw [HCO.out, HCN.out]; exact Lib.hid (inB_iff.2 (by omega))
      go_wp2_with fail
      clear g1 g2 x0 x1 x2 x3 x4 x5 x6 x7 x8 x9
      go_loopw [84] (fun x wx => ckC w gp gu cn L rg PD x wx) (fun x _ => cn - (intOf x).toNat)
      case atStart => exact ⟨0, Nat.zero_le _, rfl, HB, HBP, HBU1, Lib.hid fun j hj => by omega⟩
      case round =>
       obtain ⟨j, hj, rfl, HBj, HBPj, HBUj, HGO⟩ := hrel
       by_cases hjc : j < cn
       ·obtain ⟨i, hi⟩ : ∃ i, code[j]? = some i := ⟨_, List.getElem?_eq_getElem (by rw [HCN.out]; exact hjc)⟩
        obtain ⟨ad, hCA, hs, hb, hr, hok⟩ := (HCA.out.grow HBj.out) j i hi
        subst hCA
        have HGI : Hid (PD.code.getD j Ins.zero = i) := by rw [HCO.out, List.getD_eq_getElem?_getD, hi]; exact Lib.hid rfl
        have HS := Lib.hid hs
        have HR := Lib.hid hr
        have c1' : (0 : Int) ≤ (j : Int) := by omega
        have c2' : (j : Int) < (cn : Int) := by omega
        have wj : IntKind.i64.wrap ((j : Int) + 1) = ((j + 1 : Nat) : Int) := (IntWalk.i64_in _ (by omega)).trans (by omega)
        have wcn : IntKind.i64.wrap ((cn : Int) - 1) = ((cn - 1 : Nat) : Int) := (IntWalk.i64_in _ (by omega)).trans (by omega)
        clear hi hs hb hr hok
        go_upto_region 24 with (first
         | ((with_reducible show wpList _ _ _ (Oper.mk _ (.load 109 _) _ _ _ _ :: _) _ _); refine ld_insA HS.out HR.out rfl _ rfl rfl ?_)
         | ((with_reducible show wpList _ _ _ (Oper.mk _ (.store 109 _ _) _ _ _ _ :: _) _ _); refine st_ins (w := wr.alloc (.cells Ins.zero.cells.toArray 109)) (g := wr.heap.size) (i := Ins.zero) (j := i) (Box.new rfl) rfl _ _ rfl rfl rfl ?_; intro W2 b2 p2))
        have hb2 := put_facts ((Below.refl wr.heap.size wr).alloc (Nat.le_refl _) (.cells Ins.zero.cells.toArray 109)) (Nat.le_refl _) p2
        have HB2 := Lib.hid (below_then HBj.out hb2)
        have HBP2 := Lib.hid (HBPj.out.keep hb2)
        have HBU2 := Lib.hid (HBUj.out.keep hb2)
        have HBI2 := Lib.hid b2
        clear hb2 b2 p2 HR HS
        generalize wr.heap.size = gi at HBI2 ⊢
        have hk3 := HBP2.out
        rw [← HL.out] at hk3
        obtain ⟨⟨x0, x1, x2, x3⟩, ⟨x4, x5, x6, x7⟩, x8, x9⟩ := hk3.c10
        clear hk3
        obtain ⟨bl, hbl⟩ : ∃ c, decide (j = cn - 1) = c := ⟨_, rfl⟩
        have HLAST : Hid (decide (j + 1 = PD.code.length) = bl) := by
         rw [HCO.out, HCN.out, ← hbl]
         exact Lib.hid (decide_eq_decide.2 (by omega))
        have hbl2 : decide ((j : Int) = ((cn - 1 : Nat) : Int)) = bl := by rw [← hbl]; exact decide_eq_decide.2 (by omega)
        have hbl3 : ((j : Int) == ((cn - 1 : Nat) : Int)) = bl := hbl2
        obtain ⟨cn1, hcn1⟩ : ∃ x : Nat, cn - 1 = x := ⟨_, rfl⟩
        rw [hcn1] at wcn hbl hbl2 hbl3
        have hbl4 : (j == cn1) = bl := hbl
        clear hcn1
        go_upto_region 25 with fail
        obtain ⟨s, hs⟩ : ∃ s, suitB PD i = s := ⟨_, rfl⟩
        obtain ⟨b0, hb0⟩ : ∃ c, decide (i.op = 0) = c := ⟨_, rfl⟩
        have hb1 : (i.op == 0) = b0 := hb0
        have HGD : Hid (goodAt PD j = (s && (b0 == bl))) := by
         unfold goodAt
         rw [HGI.out, hs, hb0, HLAST.out]
         exact Lib.hid rfl
        have CS : Hid (∀ n : Ext W2, Calls Tryd.prog 101 #[.agg #[.int .i64 d0, .int .i64 d1, .int .i64 d2, .int .i64 d3, .int .i64 c0, .int .i64 c1, .int .i64 c2, .int .i64 c3, .slice RA k rc, .slice (some ad) cn cc], .slice (some ⟨gu, 0, none⟩) 128 128, i.v] n.to fun e w' => e = .returned (.bool s) ∧ Below n.to.heap.size n.to w') := Lib.hid fun n => by
         have hw1 := HB2.out.trans (n.below.mono HB2.out.size)
         have h := pr_suits ⟨⟨d0, d1, d2, d3, c0, c1, c2, c3, rg, code⟩, RA, some ad, rc, cc⟩ gu i n.to (HF.out.grow hw1) (HRA.out.grow hw1) (by simp only; rw [HRN.out]; exact h8) HC.out (Nat.lt_of_lt_of_le HBU2.out.1 n.below.size) (fun m hm => Box.ext HBU2.out (by rw [List.getElem?_map, used_all hm]; rfl) n) s (by rw [← hs, HPD.out])
         unfold PrgA.v PrgA.lst at h
         simp only [HRN.out, HCN.out] at h
         exact h
        have e5 := HBI2.out.ext (k := 0) (v := .int .i64 i.op) rfl
        have hL9 : L.length = 10 := by rw [← HL.out]; rfl
        have HL9 := Lib.hid hL9
        clear hs hb0 hL9 hbl hbl2 hbl3 hbl4 wcn
        have HBPQ := HBP2
        rw [← HL.out] at HBPQ
        cases s with
        | false =>
         refine wp_region_ext (by kernel_rfl) (by kernel_rfl) ?_
         repeat (first
          | ((with_reducible show wpQuiet _ _ _ _ (Oper.mk (some 95) (.load 41 _) _ _ _ _ :: _) _); refine qld_prg HBPQ.out rfl rfl (Operand.tmp 1) rfl rfl ?_; simp [Act.put])
          | ((with_reducible show wpQuiet _ _ _ _ (Oper.mk (some 97) (.load 109 _) _ _ _ _ :: _) _); refine qld_insB HBI2.out rfl (Operand.tmp 9) rfl rfl ?_; simp [Act.put])
          | (go_big_quiet_step (first | (go_at_call 101; exact ext_below (CS.out _)))))
         refine wpQuiet_nil ?_
         rintro ⟨w3, hb3⟩
         dsimp only
         go_wp2_with fail
         go_ret2
         exact RetChk.mk (chk_at HV1.out HRB.out HIN.out (k := j) (by rw [HCO.out, HCN.out]; exact hjc) HGO.out HGD.out) (below_then HB2.out hb3)
        | true =>
         have hop : ∀ c : Bool, (i.op == 0) = c → True := fun _ _ => trivial
         clear hop
         cases b0 with
         | true =>
          cases bl with
          | true =>
           refine wp_region_ext (by kernel_rfl) (by kernel_rfl) ?_
           repeat (first
            | ((with_reducible show wpQuiet _ _ _ _ (Oper.mk (some 95) (.load 41 _) _ _ _ _ :: _) _); refine qld_prg HBPQ.out rfl rfl (Operand.tmp 1) rfl rfl ?_; simp [Act.put])
            | ((with_reducible show wpQuiet _ _ _ _ (Oper.mk (some 97) (.load 109 _) _ _ _ _ :: _) _); refine qld_insB HBI2.out rfl (Operand.tmp 9) rfl rfl ?_; simp [Act.put])
            | (go_big_quiet_step (first | (go_at_call 101; exact ext_below (CS.out _)))))
           refine wpQuiet_nil ?_
           rintro ⟨w3, hb3⟩
           dsimp only
           go_wp2_with fail
           go_roundw
           case rel => exact ⟨j + 1, by omega, by go_num, Lib.hid (below_then HB2.out hb3), Lib.hid (HBP2.out.keep hb3), Lib.hid (HBU2.out.keep hb3), Lib.hid fun t ht => by
            by_cases e : t = j
            ·rw [e]; exact HGD.out
            ·exact HGO.out t (by omega)⟩
           case measure => simp [intOf]; omega
          | false =>
           refine wp_region_ext (by kernel_rfl) (by kernel_rfl) ?_
           repeat (first
            | ((with_reducible show wpQuiet _ _ _ _ (Oper.mk (some 95) (.load 41 _) _ _ _ _ :: _) _); refine qld_prg HBPQ.out rfl rfl (Operand.tmp 1) rfl rfl ?_; simp [Act.put])
            | ((with_reducible show wpQuiet _ _ _ _ (Oper.mk (some 97) (.load 109 _) _ _ _ _ :: _) _); refine qld_insB HBI2.out rfl (Operand.tmp 9) rfl rfl ?_; simp [Act.put])
            | (go_big_quiet_step (first | (go_at_call 101; exact ext_below (CS.out _)))))
           refine wpQuiet_nil ?_
           rintro ⟨w3, hb3⟩
           dsimp only
           go_wp2_with fail
           go_ret2
           exact RetChk.mk (chk_at HV1.out HRB.out HIN.out (k := j) (by rw [HCO.out, HCN.out]; exact hjc) HGO.out HGD.out) (below_then HB2.out hb3)
         | false =>
          cases bl with
          | true =>
           refine wp_region_ext (by kernel_rfl) (by kernel_rfl) ?_
           repeat (first
            | ((with_reducible show wpQuiet _ _ _ _ (Oper.mk (some 95) (.load 41 _) _ _ _ _ :: _) _); refine qld_prg HBPQ.out rfl rfl (Operand.tmp 1) rfl rfl ?_; simp [Act.put])
            | ((with_reducible show wpQuiet _ _ _ _ (Oper.mk (some 97) (.load 109 _) _ _ _ _ :: _) _); refine qld_insB HBI2.out rfl (Operand.tmp 9) rfl rfl ?_; simp [Act.put])
            | (go_big_quiet_step (first | (go_at_call 101; exact ext_below (CS.out _)))))
           refine wpQuiet_nil ?_
           rintro ⟨w3, hb3⟩
           dsimp only
           go_wp2_with fail
           go_ret2
           exact RetChk.mk (chk_at HV1.out HRB.out HIN.out (k := j) (by rw [HCO.out, HCN.out]; exact hjc) HGO.out HGD.out) (below_then HB2.out hb3)
          | false =>
           refine wp_region_ext (by kernel_rfl) (by kernel_rfl) ?_
           repeat (first
            | ((with_reducible show wpQuiet _ _ _ _ (Oper.mk (some 95) (.load 41 _) _ _ _ _ :: _) _); refine qld_prg HBPQ.out rfl rfl (Operand.tmp 1) rfl rfl ?_; simp [Act.put])
            | ((with_reducible show wpQuiet _ _ _ _ (Oper.mk (some 97) (.load 109 _) _ _ _ _ :: _) _); refine qld_insB HBI2.out rfl (Operand.tmp 9) rfl rfl ?_; simp [Act.put])
            | (go_big_quiet_step (first | (go_at_call 101; exact ext_below (CS.out _)))))
           refine wpQuiet_nil ?_
           rintro ⟨w3, hb3⟩
           dsimp only
           go_wp2_with fail
           go_roundw
           case rel => exact ⟨j + 1, by omega, by go_num, Lib.hid (below_then HB2.out hb3), Lib.hid (HBP2.out.keep hb3), Lib.hid (HBU2.out.keep hb3), Lib.hid fun t ht => by
            by_cases e : t = j
            ·rw [e]; exact HGD.out
            ·exact HGO.out t (by omega)⟩
           case measure => simp [intOf]; omega
       ·obtain rfl : j = cn := by omega
        go_wp2_with fail
        go_ret2
        exact RetChk.mk (chk_ok HV1.out HRB.out HIN.out (by rw [HCO.out, HCN.out]; exact HGO.out)) HBj.out
   ·have h81 : (8 : Int) < (rn : Int) := by omega
    go_wp2_with fail
    go_ret2
    exact RetChk.mk (chk_rings HV1.out (by rw [HRG.out]; unfold ringsB; rw [HRN.out, decide_eq_false h8]; rfl)) HB2.out
end Go.Proofs.YtdiflpbioohddaaDoor
end
section
namespace Go.Proofs.YtdiflpbioohddaaDoor
open Go.RowKit
theorem ring_ext {w : World} {A : Option Addr} {l : List (Int × Int)} (h : RingsAt w A l) {k : Nat} {x : Int × Int} (hk : l[k]? = some x) :
  ∃ ad, A = some ad ∧ (∀ n : Ext w, n.to.cell? (ad.add (k * 2)) = some (.int .i64 x.1)) ∧ (∀ n : Ext w, n.to.cell? ⟨(ad.add (k * 2)).block, (ad.add (k * 2)).off + 1, none⟩ = some (.int .i64 x.2)) ∧ I64 x.1 ∧ I64 x.2 := by
 obtain ⟨ad, e, hs, hb, hr, hok⟩ := h k x hk
 obtain ⟨r0, r1⟩ := ring_cells hs hr
 exact ⟨ad, e, fun n => (n.below.cell (p := ad.add (k * 2)) (by rw [block_add]; exact hb)).trans r0, fun n => (n.below.cell (p := ⟨(ad.add (k * 2)).block, (ad.add (k * 2)).off + 1, none⟩) (by rw [block_add]; exact hb)).trans r1, hok.1, hok.2⟩
end Go.Proofs.YtdiflpbioohddaaDoor
end
section
namespace Go.Proofs.YtdiflpbioohddaaDoor
open Go.RowKit
theorem ld_prg {ops : Array Oper} {rest : List Oper} {o : Oper} {a : Act} {Q : Exit → Act → World → Prop} {w : World} {g : Nat} {L : List Value} (hb : Box w g L) (hL : L.length = 10) (hgd : o.guard = none) (x : Operand) (ho : o.op = .load 41 x) (hx : a.eval x = .pointer (some ⟨g, 0, none⟩)) (h : wpList Tryd.prog ops Q rest (a.put o.dst (.agg L.toArray)) w) : wpList Tryd.prog ops Q (o :: rest) a w := by
 obtain ⟨d, h1, h2⟩ := row_prgS
 exact wp_ld hgd _ x ho g 0 hx hb L (fun j v hj => by rw [Nat.zero_add]; exact hj) d h1 h2 (by rw [hL]; exact size_prgS) h
end Go.Proofs.YtdiflpbioohddaaDoor
end
section
namespace Go.Proofs.YtdiflpbioohddaaDoor
open Go.RowKit
set_option maxRecDepth 100000 in
theorem pr_Valid (u : PrgA) (w : World) (hf : FormsAt w) (hp : PrgAt w u) (hr9 : u.d.rg.length ≤ 9223372036854775807) (hc9 : u.d.code.length ≤ 9223372036854775807) {c : Bool} (hc : validB u.d = c) :
  Calls Tryd.prog 39 #[u.v] w fun e w' => e = .returned (.bool c) ∧ Below w.heap.size w w' := by
 have CC : Hid (∀ w1, Below w.heap.size w w1 → Calls Tryd.prog 71 #[.agg u.lst.toArray] w1 (RetChk w1 u.d)) := Lib.hid fun w1 hb => by
  have h := pr_Check u w1 (hf.grow hb) (hp.grow hb) hr9 hc9
  unfold PrgA.v at h
  exact h
 have hcv := chk_valid u.d
 rw [hc] at hcv
 obtain ⟨a, b, hab⟩ : ∃ a b : Int, chkF u.d = (a, b) := ⟨_, _, rfl⟩
 rw [hab] at hcv
 have hbc : (b == 0) = c := hcv
 have HAB := Lib.hid hab
 clear hcv hc hp hab hf
 go_enter Tryd.func39, Tryd.ntmps39
 go_upto_region 1 with fail
 unfold PrgA.v
 obtain ⟨bp, hb0⟩ := entryP w u.lst _ rfl
 generalize (w.alloc (.cells u.lst.toArray 41)) = W0 at bp hb0 ⊢
 have HB0 := Lib.hid hb0
 have HBP0 := Lib.hid bp
 clear hb0 bp
 generalize w.heap.size = gp at HBP0 ⊢
 go_wp2_with (first
  | ((with_reducible show wpList _ _ _ (Oper.mk _ (.load 41 _) _ _ _ _ :: _) _ _); refine ld_prg HBP0.out rfl rfl _ rfl rfl ?_)
  | (go_at_call 71; (with_reducible refine (CC.out _ HB0.out).mono ?_); rintro e1 w1 ⟨rfl, hb1⟩; rw [HAB.out]))
 go_ret
 exact ⟨rfl, below_then HB0.out hb1⟩
end Go.Proofs.YtdiflpbioohddaaDoor
end
