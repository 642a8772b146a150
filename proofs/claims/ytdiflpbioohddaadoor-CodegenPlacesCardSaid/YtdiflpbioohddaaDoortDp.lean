/- Law CodegenPlaces. -/
import Derived.Test.YtdiflpbioohddaaDoortDm
import Derived.Test.YtdiflpbioohddaaDoortS31toH1
import Derived.Test.YtdiflpbioohddaaDoortTitoCn
import Derived.Test.YtdiflpbioohddaaDoortS22toS28
import Derived.Test.YtdiflpbioohddaaDoortH3
set_option linter.unusedVariables false
set_option linter.unusedSimpArgs false
namespace Go.Proofs.YtdiflpbioohddaaDoor
open Go.RowKit
set_option maxRecDepth 100000 in
set_option maxHeartbeats 8000000 in
theorem law_CodegenPlaces (u : PlantA) (BA : Option Addr) (bn bc : Nat) (bl : List Int) (w : World) (hf : FormsAt w) (hr : PlantOk w u) (hB : Ints w BA bl) (hbn : bl.length = bn) :
  Calls Tryd.prog 4 #[.agg u.lst.toArray, .slice BA bn bc] w (BoolBw w true) := by
 have CN : Hid (∀ w1, Below w.heap.size w w1 → Calls Tryd.prog 18 #[.agg u.lst.toArray] w1 (RetPP w1)) := fun w1 hb => pl_Net u w1 (hr.grow hb)
 have CK : Hid (∀ w1, Calls Tryd.prog 8 #[] w1 (BoolBw w1 true)) := fun w1 => known41 w1
 have HFM := Lib.hid hf
 have HBI := Lib.hid hB
 have HBL := Lib.hid hbn
 clear hf hbn
 clear hr hB
 obtain ⟨kd, dn, cn, PB, PA, bc', ac', bl', al'⟩ := u
 simp only [PlantA.lst] at CN ⊢
 generalize bl'.length = pb at CN ⊢
 generalize al'.length = pa at CN ⊢
 go_enter Tryd.func4, Tryd.ntmps4
 go_upto_region 1 with fail
 have bn0 : Box (w.alloc (.cells ([.int .i64 kd, .int .i64 dn, .int .i64 cn, .slice PB pb bc', .slice PA pa ac']).toArray 55)) w.heap.size [.int .i64 kd, .int .i64 dn, .int .i64 cn, .slice PB pb bc', .slice PA pa ac'] := Box.new rfl
 have hb0 : Below w.heap.size w (w.alloc (.cells ([.int .i64 kd, .int .i64 dn, .int .i64 cn, .slice PB pb bc', .slice PA pa ac']).toArray 55)) := (Below.refl _ _).alloc (Nat.le_refl _) _
 change Code.wp _ _ _ _ (w.alloc (.cells ([.int .i64 kd, .int .i64 dn, .int .i64 cn, .slice PB pb bc', .slice PA pa ac']).toArray 55))
 generalize w.alloc (.cells ([.int .i64 kd, .int .i64 dn, .int .i64 cn, .slice PB pb bc', .slice PA pa ac']).toArray 55) = W1 at bn0 hb0 ⊢
 have y0 : W1.cell? ⟨w.heap.size, 0, none⟩ = some (.int .i64 kd) := bn0.2.1 0
 have y1 : W1.cell? ⟨w.heap.size, 1, none⟩ = some (.int .i64 dn) := bn0.2.1 1
 have y2 : W1.cell? ⟨w.heap.size, 2, none⟩ = some (.int .i64 cn) := bn0.2.1 2
 have y3 : W1.cell? ⟨w.heap.size, 3, none⟩ = some (.slice PB pb bc') := bn0.2.1 3
 have y4 : W1.cell? ⟨w.heap.size, 4, none⟩ = some (.slice PA pa ac') := bn0.2.1 4
 have HW1 := Lib.hid hb0
 clear bn0 hb0
 go_upto_region 2 with (first
  | (go_at_call 18; (with_reducible refine (CN.out _ HW1.out).mono ?_); rintro e3 w3 ⟨n, NA, nc, XA, xc, rfl, hok, hv, hna, hb3⟩; obtain ⟨L, hL⟩ : ∃ L, n.lst NA nc XA xc = L := ⟨_, rfl⟩; rw [hL]; have HL := Lib.hid hL; have hLL : L.length = 12 ∧ L.all (·.oneCell') = true := (by rw [← hL]; exact ⟨rfl, rfl⟩); have HLL := Lib.hid hLL; clear hLL hL; have HB3 := Lib.hid (below_then HW1.out hb3); have HOK := Lib.hid (And.intro hok hv); have HNA := Lib.hid hna; clear hok hv hna hb3)
  | ((with_reducible show wpList _ _ _ (Oper.mk none (.store 27 _ _) _ _ _ _ :: _) _ _); refine st_netL (g := w3.heap.size) (M := zNet12) (Box.new (w := w3) (t := 27) (vs := zNet12.toArray) rfl) rfl HLL.out.1 HLL.out.2 rfl _ _ rfl rfl rfl ?_; intro W4 hb4 hg4; have HNB := Lib.hid hb4; have HG4 : Hid (Below w3.heap.size w3 W4) := Lib.hid (grown_to ((Below.refl _ _).alloc (Nat.le_refl _) _) hg4 (Nat.le_refl _)); clear hb4 hg4))
 have HB4 := Lib.hid (below_then HB3.out HG4.out)
 obtain ⟨-, -, ⟨p2, p3⟩, -, p5, -, -, -, -⟩ := netB_parts HOK.out.1
 obtain ⟨sn, hsn⟩ : ∃ k, n.nx.length = k := ⟨_, rfl⟩
 rw [hsn] at p5
 obtain ⟨lw, hlw⟩ : ∃ l, wordsF n.d0 n.d1 n.d2 n.d3 bl sn = l := ⟨_, rfl⟩
 have hll : lw.length = sn := by rw [← hlw, wordsF_length]
 have hfw : n.fit lw = true := by rw [← hlw]; exact fit_words HOK.out.1
 have hst : n.state lw = true := state_iff.2 ⟨by omega, List.all_eq_true.1 hfw⟩
 have hem : embE n lw = 0 := (cmp_facts (xs := []) HOK.out.1 HOK.out.2 hst rfl (by decide)).emb
 have hs64 : sn ≤ 64 := by omega
 have CW : Hid (∀ w1, Below W4.heap.size W4 w1 → Calls Tryd.prog 19 #[wordV n.d0 n.d1 n.d2 n.d3, .slice BA bn bc, .int .i64 sn] w1 fun e w' => ∃ A c, e = .returned (.slice A sn c) ∧ Ints w' A lw ∧ Below w1.heap.size w1 w') := Lib.hid fun w1 hb => by
  have := wd_Words n.d0 n.d1 n.d2 n.d3 BA bl bc sn w1 (by omega) (HBI.out.grow (below_then HB4.out hb))
  rw [HBL.out, hlw] at this
  refine this.mono ?_
  rintro e w' ⟨v, rfl, ho, hb⟩
  obtain ⟨A, c, rfl, -, hi⟩ := ho.form
  exact ⟨A, c, by rw [hll], hi, hb⟩
 have CE : Hid (∀ w1 A c, Below W4.heap.size W4 w1 → Ints w1 A lw → Calls Tryd.prog 11 #[.agg (n.lst NA nc XA xc).toArray, .slice A sn c] w1 (RetMacC w1 (embM lw) 0)) := Lib.hid fun w1 A c hb hi => by
  have h := cg_Embed_ok n NA XA A nc xc sn c lw w1 (HFM.out.grow (below_then HB4.out hb)) ((HNA.out.grow HG4.out).grow hb) HOK.out.1 HOK.out.2 hi hll (by omega)
  refine h.mono fun e w' h => ?_
  unfold RetEmb at h
  rw [hem, if_pos rfl] at h
  exact h
 have CL : Hid (∀ w1, Below W4.heap.size W4 w1 → Calls Tryd.prog 13 #[.agg (n.lst NA nc XA xc).toArray] w1 fun e w' => ∃ A c, e = .returned (.tuple #[.slice A sn c, .int .i64 0]) ∧ Ints w' A (plcK sn sn) ∧ Below w1.heap.size w1 w') := Lib.hid fun w1 hb => by
  have h := cg_Places_ok n NA XA nc xc w1 (HFM.out.grow (below_then HB4.out hb)) ((HNA.out.grow HG4.out).grow hb) HOK.out.1 HOK.out.2
  rw [hsn] at h
  refine h.mono fun e w' h => ?_
  obtain ⟨A, c, rfl, ho, hb'⟩ := h
  rw [plcK_len] at ho ⊢
  exact ⟨A, c, rfl, ho.ints, hb'⟩
 have HLE : Hid (∀ W, Box W w3.heap.size L → (W.cell? ⟨w3.heap.size, 0, none⟩ = some (.int .i64 n.d0) ∧ W.cell? ⟨w3.heap.size, 1, none⟩ = some (.int .i64 n.d1) ∧ W.cell? ⟨w3.heap.size, 2, none⟩ = some (.int .i64 n.d2) ∧ W.cell? ⟨w3.heap.size, 3, none⟩ = some (.int .i64 n.d3)) ∧ W.cell? ⟨w3.heap.size, 8, none⟩ = some (.int .i64 sn)) := Lib.hid fun W h => by
  rw [← HL.out] at h
  exact ⟨⟨h.2.1 0, h.2.1 1, h.2.1 2, h.2.1 3⟩, by rw [← p5]; exact h.2.1 8⟩
 have HLW := Lib.hid hll
 have HS64 := Lib.hid hs64
 rw [HL.out] at CE CL
 obtain ⟨⟨z0, z1, z2, z3⟩, z8⟩ := HLE.out _ HNB.out
 obtain ⟨gn, hgn⟩ : ∃ g, g = w3.heap.size := ⟨_, rfl⟩
 rw [← hgn] at HNB HLE z0 z1 z2 z3 z8 ⊢
 clear HL HOK HNA HB3 HG4 HW1 CN hgn p2 p3 p5 hsn hlw hll hfw hst hem hs64 HFM HBI HBL y0 y1 y2 y3 y4
 generalize n.d0 = d0 at CW z0 HLE
 generalize n.d1 = d1 at CW z1 HLE
 generalize n.d2 = d2 at CW z2 HLE
 generalize n.d3 = d3 at CW z3 HLE
 go_upto_region 5 with (go_at_call 19; (with_reducible refine (CW.out _ (Below.refl _ _)).mono ?_); rintro e5 w5 ⟨WA, wc, rfl, hi5, hb5⟩; have HI5 := Lib.hid hi5; have HB5 := Lib.hid hb5; clear hi5 hb5)
 clear z0 z1 z2 z3 z8 CW
 go_upto_region 6 with (first
  | ((with_reducible show wpList _ _ _ (Oper.mk _ (.load 27 _) _ _ _ _ :: _) _ _); refine ld_netB1 (HNB.out.keep HB5.out) HLL.out.1 rfl _ rfl rfl ?_)
  | (go_at_call 13; (with_reducible refine (CL.out _ HB5.out).mono ?_); rintro e6 w6 ⟨PA, pc, rfl, hi6, hb6⟩; have HI6 := Lib.hid hi6; have HB6' := Lib.hid hb6; have HB6 := Lib.hid (below_then HB5.out hb6); clear hi6 hb6))
 go_upto_region 7 with (first
  | ((with_reducible show wpList _ _ _ (Oper.mk _ (.load 27 _) _ _ _ _ :: _) _ _); refine ld_netB1 (HNB.out.keep HB6.out) HLL.out.1 rfl _ rfl rfl ?_)
  | (go_at_call 11; (with_reducible refine (CE.out _ _ _ HB6.out (HI5.out.grow HB6'.out)).mono ?_); rintro e7 w7 ⟨x, hxm, rfl, hxa, hxc, hb7⟩; have HB7 := Lib.hid hb7; have HXM := Lib.hid hxm; have HXA := Lib.hid hxa; clear hb7 hxm hxa hxc)
  | ((with_reducible show wpList _ _ _ (Oper.mk none (.store 32 _ _) _ _ _ _ :: _) _ _); refine st_mac (M := zeros5) (Box.new (w := w7) (t := 32) (vs := zeros5.toArray) rfl) rfl (L := x.lst) rfl rfl rfl _ _ rfl rfl rfl ?_; intro w8 hb8 hg8; have BM8 := Lib.hid hb8; have HG8 := Lib.hid hg8; clear hg8 hb8))
 have hba : Below w7.heap.size w7 w8 := grown_to ((Below.refl w7.heap.size w7).alloc (Nat.le_refl _) _) HG8.out (Nat.le_refl _)
 have hbb := below_then HB7.out hba
 have HW8 := Lib.hid (below_then HB4.out (below_then HB6.out hbb))
 have HXA8 := HXA.out.grow hba
 obtain ⟨-, hmi, -⟩ := HXA8
 have hmm := (emb_mem (s := lw) rfl (by have := HLW.out; have := HS64.out; omega)).1
 have hmg : ∀ i, i < sn → (embM lw).mem[i]? = lw[i]? := fun i hi => by
  show (lw ++ (List.replicate 128 (0 : Int)).drop lw.length)[i]? = lw[i]?
  rw [List.getElem?_append_left (by rw [HLW.out]; exact hi)]
 obtain ⟨xm, GA, MA, HA, gc, mc, hc⟩ := x
 have hxm := HXM.out
 simp only at hxm
 subst hxm
 simp only at hmi
 have z8 : w8.cell? ⟨gn, 8, none⟩ = some (.int .i64 sn) := (HLE.out _ ((HNB.out.keep HB6.out).keep hbb)).2
 have m1 : w8.cell? ⟨w7.heap.size, 1, none⟩ = some (.slice MA 128 mc) := by
  have h := BM8.out.2.1 1
  simp only [MacA.lst] at h
  rw [hmm] at h
  exact h
 have m2 : w8.cell? ⟨w7.heap.size, 2, none⟩ = some (.slice HA 0 hc) := BM8.out.2.1 2
 obtain ⟨gm, hgm⟩ : ∃ g, g = w7.heap.size := ⟨_, rfl⟩
 rw [← hgm] at m1 m2 ⊢
 obtain ⟨M, hM⟩ : ∃ M, (embM lw).mem = M := ⟨_, rfl⟩
 rw [hM] at hmi hmg
 have HMI := Lib.hid hmi
 have HMG := Lib.hid hmg
 have HML : Hid (M.length = 128) := Lib.hid (by rw [← hM]; exact hmm)
 have HSI := Lib.hid ((HI5.out.grow HB6'.out).grow hbb)
 have HPI := Lib.hid (HI6.out.grow hbb)
 have HNM : Hid (gm < w8.heap.size) := Lib.hid (by rw [hgm]; exact BM8.out.1)
 clear hmi hmg hM hmm hba hbb BM8 HXM HXA HG8 HB7 HB6 HB6' HB5 HI5 HI6 HNB HLE HLL CE CL hgm HB4
 go_wp2_with fail
 go_loopw [12] (fun i wr => ∃ k : Nat, k ≤ sn ∧ i = .int .i64 k ∧ Hid (Below w8.heap.size w8 wr)) (fun i _ => sn - (intOf i).toNat)
 case atStart => exact ⟨0, Nat.zero_le _, rfl, Lib.hid (Below.refl _ _)⟩
 case round =>
  obtain ⟨k, hk, rfl, HBK⟩ := hrel
  by_cases hlt : k < sn
  ·have hs64 := HS64.out
   obtain ⟨pa', px, rfl, hpb, hpx, hpc, -, -⟩ := (HPI.out.grow HBK.out).at_ (k := k) (by rw [plcK_len]; exact hlt)
   obtain ⟨ma, mx, rfl, hmb, hmx, hmc, -, -⟩ := (HMI.out.grow HBK.out).at_ (k := k) (by rw [HML.out]; omega)
   obtain ⟨wa, sx, rfl, hwb, hsx, hwc, -, -⟩ := (HSI.out.grow HBK.out).at_ (k := k) (by rw [HLW.out]; exact hlt)
   have h1 := HMG.out k hlt
   rw [hmx, hsx] at h1
   injection h1 with h1
   subst h1
   rw [plcK_get hlt, if_pos hlt] at hpx
   injection hpx with hpx
   subst hpx
   have n1 : wr.cell? ⟨gm, 1, none⟩ = some (.slice (some ma) 128 mc) := (HBK.out.cell HNM.out).trans m1
   have x0 : (0 : Int) ≤ (k : Int) := by omega
   have x1 : (k : Int) < (sn : Int) := by omega
   have x2 : (k : Int) < 128 := by omega
   have HLT := Lib.hid hlt
   clear hmx hsx hpb hmb hwb hs64 hlt
   go_wp2_with fail
   go_quiet (fail)
   go_wp2_with fail
   have HBK2 : Hid (∀ n, Below w8.heap.size w8 (wr.drewN n)) := Lib.hid fun n => below_drewN HBK.out n
   clear n1 hmc hwc hpc m1 HMI HSI x2
   obtain ⟨wo, hwo⟩ : ∃ wo : World, wo = wr.drewN nq := ⟨_, rfl⟩
   have HBO : Hid (Below w8.heap.size w8 wo) := Lib.hid (by rw [hwo]; exact HBK2.out nq)
   rw [← hwo]
   clear hwo HBK HBK2
   go_loopw [13] (fun j wi => ∃ q : Nat, q ≤ k ∧ j = .int .i64 q ∧ Hid (Below w8.heap.size w8 wi)) (fun j _ => k - (intOf j).toNat)
   case atStart => exact ⟨0, Nat.zero_le _, rfl, HBO⟩
   case round =>
    obtain ⟨q, hq, rfl, HBQ⟩ := hrel
    by_cases hqk : q < k
    ·obtain ⟨pa1, p1, e1, -, hp1, hc1, -, -⟩ := (HPI.out.grow HBQ.out).at_ (k := q) (by rw [plcK_len]; have := HLT.out; omega)
     obtain ⟨pa2, p2, e2, -, hp2, hc2, -, -⟩ := (HPI.out.grow HBQ.out).at_ (k := k) (by rw [plcK_len]; exact HLT.out)
     injection e1 with e1
     subst e1
     injection e2 with e2
     subst e2
     rw [plcK_get (by have := HLT.out; omega), if_pos (by have := HLT.out; omega)] at hp1
     rw [plcK_get HLT.out, if_pos HLT.out] at hp2
     injection hp1 with hp1
     injection hp2 with hp2
     subst hp1
     subst hp2
     have y0 : (0 : Int) ≤ (q : Int) := by omega
     have y1 : (q : Int) < (k : Int) := by omega
     have y2 : (q : Int) < (sn : Int) := by omega
     have y3 : ((q : Int) == (k : Int)) = false := by simp; omega
     have HQK := Lib.hid hqk
     clear hqk
     go_wp2_with fail
     go_quiet (fail)
     go_wp2_with fail
     go_roundw
     case rel => exact ⟨q + 1, by have := HQK.out; omega, by go_num, Lib.hid (below_drewN HBQ.out _)⟩
     case measure => have := HQK.out; simp [intOf]; omega
    ·have y1 : ¬ (q : Int) < (k : Int) := by omega
     go_wp2_with fail
     go_roundw
     case rel => exact ⟨k + 1, by have := HLT.out; omega, by go_num, HBQ⟩
     case measure => have := HLT.out; simp [intOf]; omega
  ·have x1 : ¬ (k : Int) < (sn : Int) := by omega
   go_wp2_with fail
   go_loopw [14] (fun i wi => i = .int .i64 0 ∧ Hid (Below w8.heap.size w8 wi)) (fun _ _ => 0)
   case atStart => exact ⟨rfl, HBK⟩
   case round =>
    obtain ⟨rfl, HBZ⟩ := hrel
    have n2 : wr.cell? ⟨gm, 2, none⟩ = some (.slice HA 0 hc) := (HBZ.out.cell HNM.out).trans m2
    go_wp2_with (go_at_call 8; (with_reducible refine (CK.out _).mono ?_); rintro e9 w9 ⟨rfl, hb9⟩)
    go_ret
    exact ⟨rfl, below_then (below_then HW8.out HBZ.out) hb9⟩
theorem law_CodegenPlacesC (u : PlantA) (l : Option Addr × Nat × List Int) (w : World) (hf : FormsAt w) (hr : PlantOk w u) (hl : Ints w l.1 l.2.2 ∧ l.2.2.length ≤ 9223372036854775807) :
  Calls Tryd.prog 4 #[.agg u.lst.toArray, .slice l.1 l.2.2.length l.2.1] w (BoolBw w true) :=
 law_CodegenPlaces u l.1 _ l.2.1 l.2.2 w hf hr hl.1 rfl
end Go.Proofs.YtdiflpbioohddaaDoor
