/- Several texts in one: S15 S16 S17. -/
import Derived.Test.YtdiflpbioohddaaDoortS5toS9
import Derived.Test.YtdiflpbioohddaaDoortU5toS3
import Derived.Laws.EntriesVeiled
set_option linter.unusedVariables false
set_option linter.unusedSimpArgs false
section
namespace Go.Proofs.YtdiflpbioohddaaDoor
open Go.RowKit
structure MacA where
 (m : Mac)
 (GA MA HA : Option Addr)
 (gc mc hc : Nat)
def MacA.lst (x : MacA) : List Value := [.slice x.GA x.m.regs.length x.gc, .slice x.MA x.m.mem.length x.mc, .slice x.HA x.m.heads.length x.hc, .int .i64 x.m.cyc, .int .i64 x.m.stl]
def MacA.v (x : MacA) : Value := .agg x.lst.toArray
def MacAt (w : World) (x : MacA) : Prop := Ints w x.GA x.m.regs ∧ Ints w x.MA x.m.mem ∧ Ints w x.HA x.m.heads
theorem MacAt.grow {w w' : World} {x : MacA} (h : MacAt w x) (hb : Below w.heap.size w w') : MacAt w' x := ⟨h.1.grow hb, h.2.1.grow hb, h.2.2.grow hb⟩
def MacLen (m : Mac) : Prop := m.regs.length ≤ 9223372036854775807 ∧ m.mem.length ≤ 9223372036854775807 ∧ m.heads.length ≤ 9223372036854775807
def RetIdx (w : World) (b : Bool) (e : Ending) (w' : World) : Prop := ∃ r : Int, e = .returned (.int .i64 r) ∧ decide (0 ≤ r) = b ∧ Below w.heap.size w w'
theorem RetIdx.mk {w w' : World} {b : Bool} {r : Int} (h : decide (0 ≤ r) = b) (hb : Below w.heap.size w w') : RetIdx w b (.returned (.int .i64 r)) w' := ⟨r, rfl, h, hb⟩
theorem sm_foreign (d : PrgD) (L : List Value) (g : Nat) (v : Int) (w : World) (hb : Box w g L) (hL : L.take 4 = [.int .i64 d.d0, .int .i64 d.d1, .int .i64 d.d2, .int .i64 d.d3]) {c : Bool} (hc : fitD d v = c) :
  Calls Tryd.prog 74 #[.int .i64 v, .pointer (some ⟨g, 0, none⟩)] w fun e w' => e = .returned (.bool (!c)) ∧ Below w.heap.size w w' := by
 have hk : ∀ k, k < 4 → w.cell? ⟨g, k, none⟩ = (L.take 4)[k]? := fun k h => by rw [List.getElem?_take, if_pos h]; exact hb.2.1 k
 rw [hL] at hk
 have x0 : w.cell? ⟨g, 0, none⟩ = some (.int .i64 d.d0) := hk 0 (by decide)
 have x1 : w.cell? ⟨g, 1, none⟩ = some (.int .i64 d.d1) := hk 1 (by decide)
 have x2 : w.cell? ⟨g, 2, none⟩ = some (.int .i64 d.d2) := hk 2 (by decide)
 have x3 : w.cell? ⟨g, 3, none⟩ = some (.int .i64 d.d3) := hk 3 (by decide)
 have HC : Hid (fitsW d.d0 d.d1 d.d2 d.d3 v = c) := Lib.hid hc
 clear hk hL hb hc
 go_enter Tryd.func74, Tryd.ntmps74
 go_wp2_with (go_at_call 40; (with_reducible refine (fits_is HC.out _).mono ?_); rintro e1 w1 ⟨rfl, hb1⟩)
 go_ret
 exact ⟨rfl, hb1⟩
set_option maxRecDepth 100000 in
theorem sl_IndexFunc (d : PrgD) (L : List Value) (g : Nat) (A : Option Addr) (n c : Nat) (l : List Int) (w : World) (h : Ints w A l) (hn : l.length = n) (h9 : n ≤ 9223372036854775807) (hb : Box w g L) (hL : L.take 4 = [.int .i64 d.d0, .int .i64 d.d1, .int .i64 d.d2, .int .i64 d.d3]) :
  Calls Tryd.prog 102 #[.slice A n c, .func (.func 74) #[] #[.pointer (some ⟨g, 0, none⟩)]] w (RetIdx w (!wordD d l)) := by
 have HI := Lib.hid h
 have HN := Lib.hid hn
 have HB := Lib.hid hb
 have HL := Lib.hid hL
 clear h hn hb hL
 go_enter Tryd.func102, Tryd.ntmps102
 go_wp2_with fail
 go_loopw [8] (fun x wr => ∃ k : Nat, k ≤ n ∧ x = .int .i64 k ∧ Hid (wordD d (l.take k) = true) ∧ Hid (Below w.heap.size w wr)) (fun x _ => n - (intOf x).toNat)
 case atStart => exact ⟨0, Nat.zero_le _, rfl, Lib.hid rfl, Lib.hid (Below.refl _ _)⟩
 case round =>
  obtain ⟨k, hk, rfl, HT, HW⟩ := hrel
  by_cases hlt : k < n
  ·obtain ⟨ad, x, rfl, hbk, hx, hc, i1, i2⟩ := (HI.out.grow HW.out).at_ (k := k) (by rw [HN.out]; exact hlt)
   have q1 : (0 : Int) ≤ (k : Int) := by omega
   have q2 : (k : Int) < (n : Int) := by omega
   have wk : IntKind.i64.wrap ((k : Int) + 1) = ((k + 1 : Nat) : Int) := (IntWalk.i64_in _ (by omega)).trans (by omega)
   obtain ⟨b, hb⟩ : ∃ b, fitD d x = b := ⟨_, rfl⟩
   have HFB := Lib.hid hb
   have HX := Lib.hid hx
   have HTK := Lib.hid (take_snoc' hx)
   clear hbk hx hb
   cases b with
   | true =>
    go_wp2_with (go_at_call 74; (with_reducible refine (sm_foreign d L g x _ (HB.out.keep HW.out) HL.out HFB.out).mono ?_); rintro e1 w1 ⟨rfl, hb1⟩)
    go_roundw
    case rel => exact ⟨k + 1, by omega, by go_num, by
     rw [HTK.out]
     have h := HT.out
     unfold wordD wordsB at h ⊢
     rw [List.all_append, h, List.all_cons, List.all_nil]
     have h2 := HFB.out
     unfold fitD at h2
     rw [h2]
     exact Lib.hid rfl, Lib.hid (below_then HW.out hb1)⟩
    case measure => simp [intOf]; omega
   | false =>
    go_wp2_with (go_at_call 74; (with_reducible refine (sm_foreign d L g x _ (HB.out.keep HW.out) HL.out HFB.out).mono ?_); rintro e1 w1 ⟨rfl, hb1⟩)
    go_ret
    refine RetIdx.mk ?_ (below_then HW.out hb1)
    have hno : wordD d l = false := by
     unfold wordD wordsB
     exact all_no HX.out (by have h2 := HFB.out; unfold fitD at h2; exact h2)
    rw [hno, decide_eq_true q1]; rfl
  ·obtain rfl : k = n := by omega
   go_wp2_with fail
   go_ret
   refine RetIdx.mk ?_ HW.out
   have h := HT.out
   rw [List.take_of_length_le (by rw [HN.out]; exact Nat.le_refl _)] at h
   rw [h]; rfl
set_option maxRecDepth 100000 in
theorem sl_ContainsFunc (d : PrgD) (L : List Value) (g : Nat) (A : Option Addr) (n c : Nat) (l : List Int) (w : World) (h : Ints w A l) (hn : l.length = n) (h9 : n ≤ 9223372036854775807) (hb : Box w g L) (hL : L.take 4 = [.int .i64 d.d0, .int .i64 d.d1, .int .i64 d.d2, .int .i64 d.d3]) {b : Bool} (hw : wordD d l = b) :
  Calls Tryd.prog 75 #[.slice A n c, .func (.func 74) #[] #[.pointer (some ⟨g, 0, none⟩)]] w fun e w' => e = .returned (.bool (!b)) ∧ Below w.heap.size w w' := by
 have CI := Lib.hid (sl_IndexFunc d L g A n c l w h hn h9 hb hL)
 rw [hw] at CI
 clear h hn hb hL hw
 go_enter Tryd.func75, Tryd.ntmps75
 go_wp2_with (go_at_call 102; (with_reducible refine CI.out.mono ?_); rintro e1 w1 ⟨r, rfl, hr, hb1⟩)
 go_ret
 exact ⟨rfl, hb1⟩
end Go.Proofs.YtdiflpbioohddaaDoor
end
section
namespace Go.Proofs.YtdiflpbioohddaaDoor
open Go.RowKit
theorem entryPM (w : World) (L M : List Value) : ∀ W, W = ((w.alloc (.cells L.toArray 41)).alloc (.cells M.toArray 32)) → Box W w.heap.size L ∧ Box W (w.heap.size + 1) M ∧ Below w.heap.size w W := fun W hW => by
 subst hW
 have h1 : Box (w.alloc (.cells L.toArray 41)) w.heap.size L := Box.new rfl
 have h2 : Box ((w.alloc (.cells L.toArray 41)).alloc (.cells M.toArray 32)) (w.heap.size + 1) M := Box.new (by simp)
 exact ⟨h1.alloc _, h2, ((Below.refl w.heap.size w).alloc (Nat.le_refl _) _).alloc (by simp) _⟩
theorem Box.c5 {w : World} {g : Nat} {a b c d e : Value} (x : Box w g [a, b, c, d, e]) : w.cell? ⟨g, 0, none⟩ = some a ∧ w.cell? ⟨g, 1, none⟩ = some b ∧ w.cell? ⟨g, 2, none⟩ = some c ∧ w.cell? ⟨g, 3, none⟩ = some d ∧ w.cell? ⟨g, 4, none⟩ = some e :=
 ⟨x.2.1 0, x.2.1 1, x.2.1 2, x.2.1 3, x.2.1 4⟩
set_option maxRecDepth 100000 in
set_option maxHeartbeats 8000000 in
theorem sm_Valid (u : PrgA) (x : MacA) (w : World) (hf : FormsAt w) (hp : PrgAt w u) (hx : MacAt w x) (hr9 : u.d.rg.length ≤ 9223372036854775807) (hc9 : u.d.code.length ≤ 9223372036854775807) (hm9 : MacLen x.m) {R : Bool} (hR : macB u.d x.m = R) :
  Calls Tryd.prog 42 #[u.v, x.v] w fun e w' => e = .returned (.bool R) ∧ Below w.heap.size w w' := by
 obtain ⟨V, hV⟩ : ∃ b, validB u.d = b := ⟨_, rfl⟩
 have CV : Hid (∀ w1, Below w.heap.size w w1 → Calls Tryd.prog 39 #[u.v] w1 fun e w' => e = .returned (.bool V) ∧ Below w1.heap.size w1 w') := Lib.hid fun w1 hb => pr_Valid u w1 (hf.grow hb) (hp.grow hb) hr9 hc9 hV
 obtain ⟨⟨d0, d1, d2, d3, c0, c1, c2, c3, rg, cl⟩, RA, CA, rc, cc⟩ := u
 obtain ⟨⟨rs, ms, hs, cy, st⟩, GA, MA, HA, gc, mc, hc⟩ := x
 obtain ⟨hra, -⟩ := hp
 obtain ⟨hga, hma, hha⟩ := hx
 obtain ⟨l1, l2, l3⟩ := hm9
 simp only at hra hr9 hc9 hga hma hha l1 l2 l3
 obtain ⟨rn, hrn⟩ : ∃ n, rg.length = n := ⟨_, rfl⟩
 obtain ⟨cn, hcn⟩ : ∃ n, cl.length = n := ⟨_, rfl⟩
 obtain ⟨gn, hgn⟩ : ∃ n, rs.length = n := ⟨_, rfl⟩
 obtain ⟨mn, hmn⟩ : ∃ n, ms.length = n := ⟨_, rfl⟩
 obtain ⟨hn, hhn⟩ : ∃ n, hs.length = n := ⟨_, rfl⟩
 obtain ⟨PD, hPD⟩ : ∃ x : PrgD, x = ⟨d0, d1, d2, d3, c0, c1, c2, c3, rg, cl⟩ := ⟨_, rfl⟩
 have ev : PrgA.v ⟨⟨d0, d1, d2, d3, c0, c1, c2, c3, rg, cl⟩, RA, CA, rc, cc⟩ = .agg #[.int .i64 d0, .int .i64 d1, .int .i64 d2, .int .i64 d3, .int .i64 c0, .int .i64 c1, .int .i64 c2, .int .i64 c3, .slice RA rn rc, .slice CA cn cc] := by
  unfold PrgA.v PrgA.lst
  simp only [hrn, hcn]
 have em : MacA.v ⟨⟨rs, ms, hs, cy, st⟩, GA, MA, HA, gc, mc, hc⟩ = .agg #[.slice GA gn gc, .slice MA mn mc, .slice HA hn hc, .int .i64 cy, .int .i64 st] := by
  unfold MacA.v MacA.lst
  simp only [hgn, hmn, hhn]
 rw [ev] at CV ⊢
 rw [em]
 simp only at hR hV
 rw [← hPD] at hR hV
 have HR : Hid (∀ b, macB PD ⟨rs, ms, hs, cy, st⟩ = b → R = b) := Lib.hid fun b h => hR.symm.trans h
 have HPD := Lib.hid hPD
 have HRG : Hid (PD.rg = rg) := by rw [hPD]; exact Lib.hid rfl
 have HVV := Lib.hid hV
 have HRN := Lib.hid hrn
 have HRA := Lib.hid hra
 have HGA := Lib.hid hga
 have HMA := Lib.hid hma
 have HHA := Lib.hid hha
 have HGN := Lib.hid hgn
 have HMN := Lib.hid hmn
 have HHN := Lib.hid hhn
 rw [hrn] at hr9
 rw [hgn] at l1
 rw [hmn] at l2
 rw [hhn] at l3
 clear ev em hf hra hga hma hha hrn hcn hgn hmn hhn hPD hV hR hc9
 go_enter Tryd.func42, Tryd.ntmps42
 go_upto_region 1 with fail
 obtain ⟨bp, br, hb0⟩ := entryPM w [.int .i64 d0, .int .i64 d1, .int .i64 d2, .int .i64 d3, .int .i64 c0, .int .i64 c1, .int .i64 c2, .int .i64 c3, .slice RA rn rc, .slice CA cn cc] [.slice GA gn gc, .slice MA mn mc, .slice HA hn hc, .int .i64 cy, .int .i64 st] _ rfl
 change Code.wp _ _ _ _ ((w.alloc (.cells [.int .i64 d0, .int .i64 d1, .int .i64 d2, .int .i64 d3, .int .i64 c0, .int .i64 c1, .int .i64 c2, .int .i64 c3, .slice RA rn rc, .slice CA cn cc].toArray 41)).alloc (.cells [.slice GA gn gc, .slice MA mn mc, .slice HA hn hc, .int .i64 cy, .int .i64 st].toArray 32))
 generalize ((w.alloc (.cells [.int .i64 d0, .int .i64 d1, .int .i64 d2, .int .i64 d3, .int .i64 c0, .int .i64 c1, .int .i64 c2, .int .i64 c3, .slice RA rn rc, .slice CA cn cc].toArray 41)).alloc (.cells [.slice GA gn gc, .slice MA mn mc, .slice HA hn hc, .int .i64 cy, .int .i64 st].toArray 32)) = W0 at bp br hb0 ⊢
 have HB0 := Lib.hid hb0
 have HBP0 := Lib.hid bp
 have HBR0 := Lib.hid br
 clear hb0 bp br
 generalize hgp : w.heap.size = gp at HBP0 HBR0 ⊢
 have HGP := Lib.hid hgp
 clear hgp
 cases V with
 | false =>
  go_wp2_with (first
   | ((with_reducible show wpList _ _ _ (Oper.mk (some 8) (.load _ _) _ _ _ _ :: _) _ _); refine ld_prg HBP0.out rfl rfl _ rfl rfl ?_)
   | (go_at_call 39; (with_reducible refine (CV.out _ HB0.out).mono ?_); rintro e1 w1 ⟨rfl, hb1⟩))
  go_ret
  exact ⟨by rw [HR.out false (by unfold macB; rw [HVV.out]; rfl)]; rfl, below_then HB0.out hb1⟩
 | true =>
  go_upto_region 3 with (first
   | ((with_reducible show wpList _ _ _ (Oper.mk (some 8) (.load _ _) _ _ _ _ :: _) _ _); refine ld_prg HBP0.out rfl rfl _ rfl rfl ?_)
   | (go_at_call 39; (with_reducible refine (CV.out _ HB0.out).mono ?_); rintro e1 w1 ⟨rfl, hb1⟩))
  have HB1 := Lib.hid (below_then HB0.out hb1)
  have HBP1 := Lib.hid (HBP0.out.keep hb1)
  have HBR1 := Lib.hid (HBR0.out.keep hb1)
  clear hb1 HBP0 HBR0 HB0 CV
  have x8 := HBP1.out.c10.2.2.1
  obtain ⟨y0, y1, y2, y3, y4⟩ := HBR1.out.c5
  by_cases hl : (gn = 8 ∧ mn = 128) ∧ hn = rn
  ·obtain ⟨⟨rfl, rfl⟩, rfl⟩ := hl
   have HLL : Hid (decide (rs.length = 8 ∧ ms.length = 128 ∧ hs.length = PD.rg.length) = true) := Lib.hid (decide_eq_true ⟨HGN.out, HMN.out, by rw [HHN.out, HRG.out, HRN.out]⟩)
   have HL4 : Hid (([.int .i64 d0, .int .i64 d1, .int .i64 d2, .int .i64 d3, .int .i64 c0, .int .i64 c1, .int .i64 c2, .int .i64 c3, .slice RA hn rc, .slice CA cn cc] : List Value).take 4 = [.int .i64 PD.d0, .int .i64 PD.d1, .int .i64 PD.d2, .int .i64 PD.d3]) := by rw [HPD.out]; exact Lib.hid rfl
   obtain ⟨bg, hbg⟩ : ∃ b, wordD PD rs = b := ⟨_, rfl⟩
   obtain ⟨bm, hbm⟩ : ∃ b, wordD PD ms = b := ⟨_, rfl⟩
   have HBG := Lib.hid hbg
   have HBM := Lib.hid hbm
   have hmf : ∀ (fn : Fn) (first cap : Array Value) (w : World), (Instr.makeFunc fn first cap).run Tryd.prog w = .ok (.func fn first cap) w := fun _ _ _ _ => rfl
   clear hbg hbm
   have CF : Hid (∀ (w1 : World) A n c l b, Ints w1 A l → l.length = n → n ≤ 9223372036854775807 → Box w1 gp [.int .i64 d0, .int .i64 d1, .int .i64 d2, .int .i64 d3, .int .i64 c0, .int .i64 c1, .int .i64 c2, .int .i64 c3, .slice RA hn rc, .slice CA cn cc] → wordD PD l = b → Calls Tryd.prog 75 #[.slice A n c, .func (.func 74) #[] #[.pointer (some ⟨gp, 0, none⟩)]] w1 fun e w' => e = .returned (.bool (!b)) ∧ Below w1.heap.size w1 w') := Lib.hid fun w1 A n c l b h1 h2 h3 h4 h5 => sl_ContainsFunc PD _ gp A n c l w1 h1 h2 h3 h4 HL4.out h5
   have h80 : (8 : Nat) ≤ 9223372036854775807 ∧ (128 : Nat) ≤ 9223372036854775807 := by decide
   have H80 := Lib.hid h80
   clear h80 l1 l2
   have HZN := HRN
   cases bg with
   | false =>
    have HNO := Lib.hid (HR.out false (by unfold macB; rw [HVV.out, HLL.out, HBG.out]; rfl))
    go_wp2_with (go_at_call 75; (with_reducible refine (CF.out _ _ _ _ _ _ (HGA.out.grow HB1.out) HGN.out H80.out.1 HBP1.out HBG.out).mono ?_); rintro e1 w2 ⟨rfl, hb2⟩)
    go_ret
    exact ⟨by rw [HNO.out]; rfl, below_then HB1.out hb2⟩
   | true =>
    cases bm with
    | false =>
     have HNO := Lib.hid (HR.out false (by unfold macB; rw [HVV.out, HLL.out, HBG.out, HBM.out]; rfl))
     go_wp2_with (go_at_call 75; (first
      | ((with_reducible refine (CF.out _ _ _ _ _ _ (HGA.out.grow HB1.out) HGN.out H80.out.1 HBP1.out HBG.out).mono ?_); rintro e1 w2 ⟨rfl, hb2⟩; obtain ⟨y0, y1, y2, y3, y4⟩ := (HBR1.out.keep hb2).c5)
      | ((with_reducible refine (CF.out _ _ _ _ _ _ ((HMA.out.grow HB1.out).grow hb2) HMN.out H80.out.2 (HBP1.out.keep hb2) HBM.out).mono ?_); rintro e1 w3 ⟨rfl, hb3⟩)))
     go_ret
     exact ⟨by rw [HNO.out]; rfl, below_then (below_then HB1.out hb2) hb3⟩
    | true =>
     go_upto_region 8 with (go_at_call 75; (first
      | ((with_reducible refine (CF.out _ _ _ _ _ _ (HGA.out.grow HB1.out) HGN.out H80.out.1 HBP1.out HBG.out).mono ?_); rintro e1 w2 ⟨rfl, hb2⟩; obtain ⟨y0, y1, y2, y3, y4⟩ := (HBR1.out.keep hb2).c5)
      | ((with_reducible refine (CF.out _ _ _ _ _ _ ((HMA.out.grow HB1.out).grow hb2) HMN.out H80.out.2 (HBP1.out.keep hb2) HBM.out).mono ?_); rintro e1 w3 ⟨rfl, hb3⟩)))
     have hb23 := below_then hb2 hb3
     have HB3 := Lib.hid (below_then HB1.out hb23)
     have HBP3 := Lib.hid (HBP1.out.keep hb23)
     have HBR3 := Lib.hid (HBR1.out.keep hb23)
     obtain ⟨y0, y1, y2, y3, y4⟩ := HBR3.out.c5
     clear hb2 hb3 hb23 HBP1 HBR1 HB1 CF hmf x8
     obtain ⟨L, hL⟩ : ∃ L : List Value, [.int .i64 d0, .int .i64 d1, .int .i64 d2, .int .i64 d3, .int .i64 c0, .int .i64 c1, .int .i64 c2, .int .i64 c3, .slice RA hn rc, .slice CA cn cc] = L := ⟨_, rfl⟩
     obtain ⟨M, hM⟩ : ∃ L : List Value, [.slice GA 8 gc, .slice MA 128 mc, .slice HA hn hc, .int .i64 cy, .int .i64 st] = L := ⟨_, rfl⟩
     rw [hL] at HBP3
     rw [hM] at HBR3
     have HL8 : Hid (L[8]? = some (.slice RA hn rc)) := by rw [← hL]; exact Lib.hid rfl
     have HM3 : Hid (M[3]? = some (.int .i64 cy) ∧ M[4]? = some (.int .i64 st)) := by rw [← hM]; exact Lib.hid ⟨rfl, rfl⟩
     clear hL hM HL4
     go_wp2_with fail
     clear y0 y1 y2 y3 y4
     go_loopw [44] (fun x wr => ∃ k : Nat, k ≤ hn ∧ x = .int .i64 k ∧ Hid (∀ j, j < k → 0 ≤ hs.getD j 0 ∧ hs.getD j 0 < (rg.getD j (0, 0)).2) ∧ Hid (Box wr gp L) ∧ Hid (Box wr (gp + 1) M) ∧ Hid (Below w.heap.size w wr)) (fun x _ => hn - (intOf x).toNat)
     case atStart => exact ⟨0, Nat.zero_le _, rfl, Lib.hid (fun j hj => by omega), HBP3, HBR3, HB3⟩
     case round =>
      obtain ⟨k, hk, rfl, HK, HBP, HBR, HB⟩ := hrel
      have x8 : wr.cell? ⟨gp, 8, none⟩ = some (.slice RA hn rc) := (HBP.out.2.1 8).trans HL8.out
      by_cases hlt : k < hn
      ·obtain ⟨ha, hd, e1, hbk, hx, hcc, i1, i2⟩ := (HHA.out.grow HB.out).at_ (k := k) (by rw [HHN.out]; exact hlt)
       subst e1
       obtain ⟨⟨xb, xl⟩, hxr⟩ : ∃ x, rg[k]? = some x := ⟨_, List.getElem?_eq_getElem (by rw [HRN.out]; exact hlt)⟩
       obtain ⟨ad, hA, hsp, hbl, hrr, -⟩ := (HRA.out.grow HB.out) k (xb, xl) hxr
       obtain ⟨-, r1⟩ := ring_cells hsp hrr
       subst hA
       simp only at r1
       have q1 : (0 : Int) ≤ (k : Int) := by omega
       have q2 : (k : Int) < (hn : Int) := by omega
       have wk : IntKind.i64.wrap ((k : Int) + 1) = ((k + 1 : Nat) : Int) := (IntWalk.i64_in _ (by omega)).trans (by omega)
       have HD1 : Hid (hs.getD k 0 = hd) := by rw [List.getD_eq_getElem?_getD, hx]; exact Lib.hid rfl
       have HD2 : Hid (rg.getD k (0, 0) = (xb, xl)) := by rw [List.getD_eq_getElem?_getD, hxr]; exact Lib.hid rfl
       have hbad : ¬ (0 ≤ hd ∧ hd < xl) → R = false := fun hh => HR.out false (by
        have : headsB PD.rg hs = false := by
         rw [HRG.out, Bool.eq_false_iff]
         intro h2
         have := headsB_at h2 (k := k) (by rw [HHN.out]; exact hlt)
         rw [HD1.out, HD2.out] at this
         exact hh this
        unfold macB
        rw [HVV.out, HLL.out, HBG.out, HBM.out, this]; rfl)
       have HBAD := Lib.hid hbad
       clear hx hxr hsp hbl hrr hbk hbad
       by_cases h1 : hd < 0
       ·have g1 : decide (hd < 0) = true := decide_eq_true h1
        have HNO := Lib.hid (HBAD.out (by omega))
        go_wp2_with fail
        go_ret
        exact ⟨by rw [HNO.out]; rfl, HB.out⟩
       ·have g1 : decide (hd < 0) = false := decide_eq_false h1
        by_cases h2 : xl ≤ hd
        ·have g2 : decide (xl ≤ hd) = true := decide_eq_true h2
         have HNO := Lib.hid (HBAD.out (by omega))
         go_wp2_with fail
         go_ret
         exact ⟨by rw [HNO.out]; rfl, HB.out⟩
        ·have g2 : decide (xl ≤ hd) = false := decide_eq_false h2
         have h3 : 0 ≤ hd ∧ hd < xl := by omega
         have H3 := Lib.hid h3
         clear h3
         go_wp2_with fail
         go_roundw
         case rel => exact ⟨k + 1, by omega, by go_num, Lib.hid fun j hj => by
          by_cases e : j = k
          ·rw [e, HD1.out, HD2.out]; exact H3.out
          ·exact HK.out j (by omega), HBP, HBR, HB⟩
         case measure => simp [intOf]; omega
      ·obtain rfl : k = hn := by omega
       have HHB : Hid (headsB PD.rg hs = true) := by
        rw [HRG.out]
        unfold headsB
        refine Lib.hid (List.all_eq_true.2 fun j hj => ?_)
        have hj := List.mem_range.1 hj
        rw [HHN.out] at hj
        rw [decide_eq_true_eq]
        exact HK.out j hj
       have HFIN : Hid (R = (inB cy 0 1099511627776 && inB st 0 1099511627776)) := Lib.hid (HR.out _ (by
        unfold macB
        rw [HVV.out, HLL.out, HBG.out, HBM.out, HHB.out]
        simp only [Bool.true_and]))
       have z3 : wr.cell? ⟨gp + 1, 3, none⟩ = some (.int .i64 cy) := (HBR.out.2.1 3).trans HM3.out.1
       have z4 : wr.cell? ⟨gp + 1, 4, none⟩ = some (.int .i64 st) := (HBR.out.2.1 4).trans HM3.out.2
       clear hlt
       rcases Int.lt_or_le cy 0 with a1 | a1
       ·have g1 : decide (0 ≤ cy) = false := decide_eq_false (by omega)
        go_wp2_with fail
        go_ret
        exact ⟨by rw [HFIN.out]; unfold inB; rw [g1]; rfl, HB.out⟩
       ·have g1 : decide (0 ≤ cy) = true := decide_eq_true a1
        rcases Int.lt_or_le 1099511627776 cy with a2 | a2
        ·have g2 : decide (cy ≤ 1099511627776) = false := decide_eq_false (by omega)
         go_wp2_with fail
         go_ret
         exact ⟨by rw [HFIN.out]; unfold inB; rw [g1, g2]; rfl, HB.out⟩
        ·have g2 : decide (cy ≤ 1099511627776) = true := decide_eq_true a2
         rcases Int.lt_or_le st 0 with a3 | a3
         ·have g3 : decide (0 ≤ st) = false := decide_eq_false (by omega)
          go_wp2_with fail
          go_ret
          exact ⟨by rw [HFIN.out]; unfold inB; rw [g1, g2, g3]; rfl, HB.out⟩
         ·have g3 : decide (0 ≤ st) = true := decide_eq_true a3
          rcases Int.lt_or_le 1099511627776 st with a4 | a4
          ·have g4 : decide (st ≤ 1099511627776) = false := decide_eq_false (by omega)
           go_wp2_with fail
           go_ret
           exact ⟨by rw [HFIN.out]; unfold inB; rw [g1, g2, g3, g4]; rfl, HB.out⟩
          ·have g4 : decide (st ≤ 1099511627776) = true := decide_eq_true a4
           go_wp2_with fail
           go_ret
           exact ⟨by rw [HFIN.out]; unfold inB; rw [g1, g2, g3, g4]; rfl, HB.out⟩
  ·have HLL : Hid (decide (rs.length = 8 ∧ ms.length = 128 ∧ hs.length = PD.rg.length) = false) := Lib.hid (decide_eq_false (by rw [HGN.out, HMN.out, HHN.out, HRG.out, HRN.out]; omega))
   have HNO := Lib.hid (HR.out false (by unfold macB; rw [HVV.out, HLL.out]; rfl))
   by_cases h1 : gn = 8
   ·subst h1
    by_cases h2 : mn = 128
    ·subst h2
     have h3 : ¬ hn = rn := by omega
     have g1 : ((hn : Int) == (rn : Int)) = false := beq_eq_false_iff_ne.2 (by omega)
     have g2 : decide ((hn : Int) = (rn : Int)) = false := decide_eq_false (by omega)
     have g3 : (hn == rn) = false := by simpa using h3
     have g4 : ((hn : Int) != (rn : Int)) = true := bne_iff_ne.2 (by omega)
     go_wp2_with fail
     go_ret
     exact ⟨by rw [HNO.out]; rfl, HB1.out⟩
    ·have g1 : ((mn : Int) == 128) = false := by simp; omega
     have g4 : ((mn : Int) != 128) = true := by simp; omega
     go_wp2_with fail
     go_ret
     exact ⟨by rw [HNO.out]; rfl, HB1.out⟩
   ·have g1 : ((gn : Int) == 8) = false := by simp; omega
    have g4 : ((gn : Int) != 8) = true := by simp; omega
    go_wp2_with fail
    go_ret
    exact ⟨by rw [HNO.out]; rfl, HB1.out⟩
end Go.Proofs.YtdiflpbioohddaaDoor
end
section
namespace Go.Proofs.YtdiflpbioohddaaDoor
open Go.RowKit
def runL (u : PrgA) (ga ma gc mc : Nat) (hv : Value) (cy st x : Int) (s : Smp) : List Value :=
 u.lst ++ [.slice (some ⟨ga, 0, none⟩) 8 gc, .slice (some ⟨ma, 0, none⟩) 128 mc, hv, .int .i64 cy, .int .i64 st, .int .i64 s.sum, .int .i64 x, .int .i64 s.out, .bool s.ov]
structure Outs where
 (v : Value)
 (l : List Int)
structure RunAt (z : Outs) (b : Nat) (w : World) (g ga ma gc mc : Nat) (hv : Value) (u : PrgA) (cy st x : Int) (s : Smp) : Prop where
 box : Box w g (runL u ga ma gc mc hv cy st x s)
 regs : Own b w (.slice (some ⟨ga, 0, none⟩) 8 gc) s.regs
 mem : Own b w (.slice (some ⟨ma, 0, none⟩) 128 mc) s.mem
 heads : Own b w hv s.heads
 n1 : ga ≠ g
 n2 : ma ≠ g
 n3 : ga ≠ ma
 n4 : hv.ownBlock ≠ some g
 n5 : hv.ownBlock ≠ some ga
 n6 : hv.ownBlock ≠ some ma
 hb : b ≤ g
 outs : Own b w z.v z.l
 n7 : z.v.ownBlock ≠ some g
 n8 : z.v.ownBlock ≠ some ga
 n9 : z.v.ownBlock ≠ some ma
 n10 : ∀ q, hv.ownBlock = some q → z.v.ownBlock ≠ some q
theorem own_keptI {b : Nat} {w w' : World} {v : Value} {l : List Int} {r : Option Nat} (h : Own b w v l) (hg : w.grownBy w' r) (hn : v.ownBlock ≠ r) : Own b w' v l := ⟨h.1.kept hg (.inr hn), h.2⟩
section
variable {z : Outs} {b : Nat} {w : World} {g ga ma gc mc : Nat} {hv : Value} {u : PrgA} {cy st x : Int} {s : Smp}
theorem RunAt.grow {w' : World} (h : RunAt z b w g ga ma gc mc hv u cy st x s) (hb : Below w.heap.size w w') : RunAt z b w' g ga ma gc mc hv u cy st x s :=
 ⟨h.box.keep hb, h.regs.grow hb, h.mem.grow hb, h.heads.grow hb, h.n1, h.n2, h.n3, h.n4, h.n5, h.n6, h.hb, h.outs.grow hb, h.n7, h.n8, h.n9, h.n10⟩
theorem RunAt.in {k : Nat} {v : Value} (h : RunAt z b w g ga ma gc mc hv u cy st x s) (hk : (runL u ga ma gc mc hv cy st x s)[k]? = some v) : w.cell? ⟨g, k, none⟩ = some v := (h.box.2.1 k).trans hk
theorem RunAt.free (h : RunAt z b w g ga ma gc mc hv u cy st x s) (k : Nat) : w.frozen? ⟨g, k, none⟩ = false := h.box.2.2 k
theorem RunAt.put {k : Nat} {v : Value} {cy' st' x' : Int} {s' : Smp} (h : RunAt z b w g ga ma gc mc hv u cy st x s) (hk : k < 19) (e : (runL u ga ma gc mc hv cy st x s).set k v = runL u ga ma gc mc hv cy' st' x' s') (e1 : s'.regs = s.regs) (e2 : s'.mem = s.mem) (e3 : s'.heads = s.heads) :
  RunAt z b (w.setCell ⟨g, k, none⟩ v) g ga ma gc mc hv u cy' st' x' s' := by
 have hg := grown_set (k := k) (u := v) (grown_refl w (some g))
 have hbx := h.box.set (k := k) (u := v) hk
 rw [e] at hbx
 refine ⟨hbx, ?_, ?_, ?_, h.n1, h.n2, h.n3, h.n4, h.n5, h.n6, h.hb, own_keptI h.outs hg h.n7, h.n7, h.n8, h.n9, h.n10⟩
 ·rw [e1]; exact own_keptI h.regs hg (fun q => h.n1 (by injection q))
 ·rw [e2]; exact own_keptI h.mem hg (fun q => h.n2 (by injection q))
 ·rw [e3]; exact own_keptI h.heads hg (h.n4)
theorem RunAt.reg {k : Nat} {y : Int} (h : RunAt z b w g ga ma gc mc hv u cy st x s) (hy : I64 y) : RunAt z b (w.setCell ⟨ga, k, none⟩ (.int .i64 y)) g ga ma gc mc hv u cy st x { s with regs := s.regs.set k y } := by
 have hg := grown_set (k := k) (u := .int .i64 y) (grown_refl w (some ga))
 exact ⟨h.box.past h.n1, h.regs.set k hy, own_keptI h.mem hg (fun q => h.n3 (by injection q with q; exact q.symm)), own_keptI h.heads hg (h.n5), h.n1, h.n2, h.n3, h.n4, h.n5, h.n6, h.hb, own_keptI h.outs hg h.n8, h.n7, h.n8, h.n9, h.n10⟩
theorem RunAt.memw {k : Nat} {y : Int} (h : RunAt z b w g ga ma gc mc hv u cy st x s) (hy : I64 y) : RunAt z b (w.setCell ⟨ma, k, none⟩ (.int .i64 y)) g ga ma gc mc hv u cy st x { s with mem := s.mem.set k y } := by
 have hg := grown_set (k := k) (u := .int .i64 y) (grown_refl w (some ma))
 exact ⟨h.box.past h.n2, own_keptI h.regs hg (fun q => h.n3 (by injection q)), h.mem.set k hy, own_keptI h.heads hg (h.n6), h.n1, h.n2, h.n3, h.n4, h.n5, h.n6, h.hb, own_keptI h.outs hg h.n9, h.n7, h.n8, h.n9, h.n10⟩
theorem RunAt.head {ha hn hc k : Nat} {y : Int} (h : RunAt z b w g ga ma gc mc (.slice (some ⟨ha, 0, none⟩) hn hc) u cy st x s) (hy : I64 y) : RunAt z b (w.setCell ⟨ha, k, none⟩ (.int .i64 y)) g ga ma gc mc (.slice (some ⟨ha, 0, none⟩) hn hc) u cy st x { s with heads := s.heads.set k y } := by
 have hg := grown_set (k := k) (u := .int .i64 y) (grown_refl w (some ha))
 have e1 : ha ≠ g := fun q => h.n4 (by rw [← q]; rfl)
 have e2 : ha ≠ ga := fun q => h.n5 (by rw [← q]; rfl)
 have e3 : ha ≠ ma := fun q => h.n6 (by rw [← q]; rfl)
 exact ⟨h.box.past e1, own_keptI h.regs hg (fun q => e2 (by injection q with q; exact q.symm)), own_keptI h.mem hg (fun q => e3 (by injection q with q; exact q.symm)), h.heads.set k hy, h.n1, h.n2, h.n3, h.n4, h.n5, h.n6, h.hb, own_keptI h.outs hg (h.n10 ha rfl), h.n7, h.n8, h.n9, h.n10⟩
end
def RetOp (z : Outs) (b : Nat) (w0 w : World) (g ga ma gc mc : Nat) (hv : Value) (u : PrgA) (cy st x : Int) (s : Smp) (e : Ending) (w' : World) : Prop := e = .returned (.tuple #[]) ∧ RunAt z b w' g ga ma gc mc hv u cy st x s ∧ Below b w0 w'
theorem RetOp.mk {z : Outs} {b : Nat} {w0 w w' : World} {g ga ma gc mc : Nat} {hv : Value} {u : PrgA} {cy st x : Int} {s : Smp} (h : RunAt z b w' g ga ma gc mc hv u cy st x s) (hb : Below b w0 w') : RetOp z b w0 w g ga ma gc mc hv u cy st x s (.returned (.tuple #[])) w' := ⟨rfl, h, hb⟩
structure OpIn (z : Outs) (b : Nat) (w0 w : World) (g ga ma gc mc : Nat) (hv : Value) (u : PrgA) (cy st x : Int) (s : Smp) (i : Ins) : Prop where
 run : RunAt z b w g ga ma gc mc hv u cy st x s
 ok : SmpOk u.d s
 val : validB u.d = true
 xok : fitD u.d x = true
 suit : suitB u.d i = true
 rings : RingsAt w0 u.RA u.d.rg
 old : b = w0.heap.size
 bel : Below b w0 w
theorem OpIn.next {z : Outs} {b : Nat} {w0 w : World} {g ga ma gc mc : Nat} {hv : Value} {u : PrgA} {cy st x : Int} {s : Smp} {i : Ins} (h : OpIn z b w0 w g ga ma gc mc hv u cy st x s i) : SmpOk u.d (stepM u.d x s i) := stepM_ok h.val h.xok h.ok h.suit
theorem OpIn.ring {z : Outs} {b : Nat} {w0 w : World} {g ga ma gc mc : Nat} {hv : Value} {u : PrgA} {cy st x : Int} {s : Smp} {i : Ins} (h : OpIn z b w0 w g ga ma gc mc hv u cy st x s i) {w' : World} (hb : Below b w0 w') : RingsAt w' u.RA u.d.rg := h.rings.grow (by have := h.old; subst this; exact hb)
theorem entryJ (w : World) (i : Ins) : ∀ W, W = (w.alloc (.cells i.cells.toArray 109)) → Box W w.heap.size i.cells ∧ Below w.heap.size w W := fun W hW => by
 subst hW
 exact ⟨Box.new rfl, (Below.refl w.heap.size w).alloc (Nat.le_refl _) _⟩
theorem own_getD {b : Nat} {w : World} {q n c : Nat} {l : List Int} (h : Own b w (.slice (some ⟨q, 0, none⟩) n c) l) {k : Nat} (hk : k < l.length) : w.cell? ⟨q, k, none⟩ = some (.int .i64 (l.getD k 0)) :=
 h.cell (by rw [List.getD_eq_getElem?_getD, List.getElem?_eq_getElem hk]; rfl)
end Go.Proofs.YtdiflpbioohddaaDoor
end
