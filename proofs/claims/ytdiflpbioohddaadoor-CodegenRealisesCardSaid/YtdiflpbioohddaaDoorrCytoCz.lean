/- Several texts in one: Cy Cz. -/
import Derived.Test.YtdiflpbioohddaaDoorrY3toS26
import Derived.Test.YtdiflpbioohddaaDoorrS28toCx
import Derived.Test.YtdiflpbioohddaaDoorrE1toI0
import Derived.Test.YtdiflpbioohddaaDoorrS15toS20
import Derived.Test.YtdiflpbioohddaaDoorrG9toVc
set_option linter.unusedVariables false
set_option linter.unusedSimpArgs false
section
namespace Go.Proofs.YtdiflpbioohddaaDoor
open Go.RowKit
def embM (s : List Int) : Mac := ⟨List.replicate 8 0, s ++ (List.replicate 128 0).drop s.length, [], 0, 0⟩
def embE (n : NetD) (s : List Int) : Int := if (s.length : Int) = n.st then if n.fit s = true then 0 else 17 else 1
def RetMacC (w : World) (m : Mac) (er : Int) (e : Ending) (w' : World) : Prop := ∃ x : MacA, x.m = m ∧ e = .returned (.tuple #[x.v, .int .i64 er]) ∧ MacAt w' x ∧ x.m.mem.length ≤ x.mc ∧ Below w.heap.size w w'
def RetEmb (w : World) (n : NetD) (s : List Int) (e : Ending) (w' : World) : Prop := RetMacC w (if embE n s = 0 then embM s else macZ) (embE n s) e w'
theorem entryNM (w : World) (L M : List Value) {t u : TypeId} : ∀ W, W = ((w.alloc (.cells L.toArray t)).alloc (.cells M.toArray u)) → Box W w.heap.size L ∧ Box W (w.heap.size + 1) M ∧ Below w.heap.size w W := fun W hW => by
  subst hW
  have h1 : Box (w.alloc (.cells L.toArray t)) w.heap.size L := Box.new rfl
  have h2 : Box ((w.alloc (.cells L.toArray t)).alloc (.cells M.toArray u)) (w.heap.size + 1) M := Box.new (by simp)
  exact ⟨h1.alloc _, h2, ((Below.refl w.heap.size w).alloc (Nat.le_refl _) _).alloc (by simp) _⟩
set_option maxRecDepth 100000 in
set_option maxHeartbeats 8000000 in
theorem cg_Embed_ok (n : NetD) (NA XA SA : Option Addr) (nc xc sn sc : Nat) (s : List Int) (w : World) (hf : FormsAt w) (hn : NetAt w n NA XA) (hok : n.ok = true) (hv : validB n.prg = true) (hS : Ints w SA s) (hsn : s.length = sn) (hs9 : sn ≤ 9223372036854775807) :
    Calls Tryd.prog 11 #[.agg (n.lst NA nc XA xc).toArray, .slice SA sn sc] w (RetEmb w n s) := by
  have CC : Hid (∀ w1, Below w.heap.size w w1 → Calls Tryd.prog 10 #[.agg (n.lst NA nc XA xc).toArray] w1 (RetPrgE w1 n.prg 0)) := fun w1 hb => cg_Compile_ok n NA XA nc xc w1 (hf.grow hb) (hn.grow hb) hok hv
  obtain ⟨-, -, ⟨p2, p3⟩, p4, p5, -, -, -, -⟩ := netB_parts hok
  have HLL : Hid ((n.lst NA nc XA xc).length = 12) := Lib.hid rfl
  have HLE : Hid (∀ W, Box W w.heap.size (n.lst NA nc XA xc) → (W.cell? ⟨w.heap.size, 0, none⟩ = some (.int .i64 n.d0) ∧ W.cell? ⟨w.heap.size, 1, none⟩ = some (.int .i64 n.d1) ∧ W.cell? ⟨w.heap.size, 2, none⟩ = some (.int .i64 n.d2) ∧ W.cell? ⟨w.heap.size, 3, none⟩ = some (.int .i64 n.d3)) ∧ W.cell? ⟨w.heap.size, 8, none⟩ = some (.int .i64 n.st)) := Lib.hid fun W h => ⟨⟨h.2.1 0, h.2.1 1, h.2.1 2, h.2.1 3⟩, h.2.1 8⟩
  have CF : Hid (∀ v w1, Calls Tryd.prog 40 #[.agg #[.int .i64 n.d0, .int .i64 n.d1, .int .i64 n.d2, .int .i64 n.d3], .int .i64 v] w1 fun e w' => e = .returned (.bool (fitsW n.d0 n.d1 n.d2 n.d3 v)) ∧ Below w1.heap.size w1 w') := Lib.hid fun v w1 => fx_Fits n.d0 n.d1 n.d2 n.d3 v w1
  have HS := Lib.hid hS
  have HSN := Lib.hid hsn
  have HF := Lib.hid hf
  have HV := Lib.hid hv
  have HP5 := Lib.hid p5
  generalize n.lst NA nc XA xc = L at CC HLL HLE ⊢
  clear hS hsn hf hv hn hok p5 p4
  go_enter Tryd.func11, Tryd.ntmps11
  go_upto_region 1 with fail
  obtain ⟨bn, bp, hb0⟩ := entryNM (t := 27) (u := 32) w L zeros5 _ rfl
  change Code.wp _ _ _ _ ((w.alloc (.cells L.toArray 27)).alloc (.cells zeros5.toArray 32))
  generalize ((w.alloc (.cells L.toArray 27)).alloc (.cells zeros5.toArray 32)) = W0 at bn bp hb0 ⊢
  have HBN := Lib.hid bn
  have HBP := Lib.hid bp
  have HB0 := Lib.hid hb0
  clear bn bp hb0
  go_upto_region 4 with (first
    | ((with_reducible show wpList _ _ _ (Oper.mk _ (.load 27 _) _ _ _ _ :: _) _ _); refine ld_netB1 HBN.out (by simpa using HLL.out) rfl _ rfl rfl ?_)
    | (go_at_call 10; (with_reducible refine (CC.out _ HB0.out).mono ?_); rintro e1 w1 ⟨u, hud, rfl, hpu, hb1⟩; have HB1 := Lib.hid hb1; have HUD := Lib.hid hud; have HPU := Lib.hid hpu; clear hb1 hpu hud)
    | ((with_reducible show wpList _ _ _ (Oper.mk none (.store 41 _ _) _ _ _ _ :: _) _ _); refine st_prgB (M := zeros10) (Box.new rfl) rfl (L := u.lst) rfl rfl rfl _ _ rfl rfl rfl ?_; intro w2 hb2 hg2; have HBQ2 := Lib.hid hb2; have HG2 := Lib.hid hg2; clear hg2 hb2))
  have hb1 := below_then HB0.out HB1.out
  have hba : Below w1.heap.size w1 w2 := grown_to ((Below.refl w1.heap.size w1).alloc (Nat.le_refl _) _) HG2.out (Nat.le_refl _)
  have HB2 := Lib.hid (below_then hb1 hba)
  have HBN2 := Lib.hid ((HBN.out.keep HB1.out).keep hba)
  have HBP2 := Lib.hid ((HBP.out.keep HB1.out).keep hba)
  have HPU2 := Lib.hid (HPU.out.grow hba)
  obtain ⟨gQ, hgQ⟩ : ∃ g, g = w1.heap.size := ⟨_, rfl⟩
  have HQL : Hid (w.heap.size + 2 ≤ gQ) := Lib.hid (by rw [hgQ]; have := (HBP.out.keep HB1.out).1; omega)
  rw [← hgQ] at HBQ2 ⊢
  clear hb1 hba HG2 HB1 HBN HBP HPU HB0 CC hgQ
  obtain ⟨⟨z0, z1, z2, z3⟩, z8⟩ := HLE.out _ HBN2.out
  obtain ⟨st, hst⟩ : ∃ t, n.st = t := ⟨_, rfl⟩
  have HST := Lib.hid hst
  rw [hst] at z8 p2 p3
  clear hst
  by_cases hlen : (sn : Int) = st
  · subst hlen
    have HFI0 : Hid (n.fit (s.take 0) = true) := Lib.hid rfl
    have HFA : Hid (n.fit s = true → embE n s = 0) := Lib.hid fun h => by unfold embE; rw [HSN.out, HST.out, if_pos rfl, if_pos h]
    have HFB : Hid (n.fit s = false → embE n s = 17) := Lib.hid fun h => by unfold embE; rw [HSN.out, HST.out, if_pos rfl, h]; rfl
    have HBK0 : Hid (Below w2.heap.size w2 w2) := Lib.hid (Below.refl _ _)
    clear HLL
    go_wp2_with fail
    clear z0 z1 z2 z3 z8
    go_loopw [28] (fun i wr => ∃ k : Nat, k ≤ sn ∧ i = .int .i64 k ∧ Hid (n.fit (s.take k) = true) ∧ Hid (Below w2.heap.size w2 wr)) (fun i _ => sn - (intOf i).toNat)
    case atStart => exact ⟨0, Nat.zero_le _, rfl, HFI0, HBK0⟩
    case round =>
      obtain ⟨k, hk, rfl, HFI, HBK⟩ := hrel
      by_cases hlt : k < sn
      · obtain ⟨ad, x, rfl, hb, hx, hc, i1, i2⟩ := ((HS.out.grow HB2.out).grow HBK.out).at_ (k := k) (by rw [HSN.out]; exact hlt)
        obtain ⟨⟨z0, z1, z2, z3⟩, z8⟩ := HLE.out _ (HBN2.out.keep HBK.out)
        have x0 : (0 : Int) ≤ (k : Int) := by omega
        have x1 : (k : Int) < (sn : Int) := by omega
        have HSU : Hid (n.fit (s.take (k + 1)) = (n.fit (s.take k) && fitsW n.d0 n.d1 n.d2 n.d3 x)) := Lib.hid (by
          unfold NetD.fit
          rw [List.take_add_one, hx, List.all_append]
          simp)
        have HXM := Lib.hid (List.mem_of_getElem? hx)
        clear hx
        obtain ⟨fb, hfb⟩ : ∃ b, fitsW n.d0 n.d1 n.d2 n.d3 x = b := ⟨_, rfl⟩
        have HFBx := Lib.hid hfb
        clear hfb
        cases fb with
        | true =>
          go_wp2_with (go_at_call 40; (with_reducible refine (CF.out _ _).mono ?_); rw [HFBx.out]; rintro e5 w5 ⟨rfl, hb5⟩)
          go_roundw
          case rel => exact ⟨k + 1, by omega, by go_num, Lib.hid (by rw [HSU.out, HFI.out, HFBx.out]; rfl), Lib.hid (below_then HBK.out hb5)⟩
          case measure => simp [intOf]; omega
        | false =>
          have HE : Hid (embE n s = 17) := Lib.hid (HFB.out (by
            cases e : n.fit s with
            | false => rfl
            | true =>
              unfold NetD.fit at e
              have := List.all_eq_true.1 e x HXM.out
              rw [HFBx.out] at this
              cases this))
          go_wp2_with (first
            | (go_at_call 40; (with_reducible refine (CF.out _ _).mono ?_); rw [HFBx.out]; rintro e5 w5 ⟨rfl, hb5⟩; have HB5 := Lib.hid (below_then HBK.out hb5); clear hb5)
            | ((with_reducible show wpList _ _ _ (Oper.mk none (.store 32 _ _) _ _ _ _ :: _) _ _); refine st_mac (M := zeros5) (HBP2.out.keep HB5.out) rfl (L := zeros5) rfl rfl rfl _ _ rfl rfl rfl ?_; intro w9 hb9 hg9))
          obtain ⟨dsc, hd1, hd2⟩ := row_mac
          refine bodyPost_ret (resCT rfl _ _ w9 (g := w.heap.size + 1) (v := .agg zeros5.toArray) rfl (res_box _ hb9 dsc hd1 hd2 size_mac)) rfl ?_
          unfold RetEmb
          rw [HE.out, if_neg (by decide)]
          exact ⟨⟨macZ, none, none, none, 0, 0, 0⟩, rfl, rfl, ⟨Ints.nil, Ints.nil, Ints.nil⟩, Nat.le_refl _, grown_to (below_then HB2.out HB5.out) hg9 (by omega)⟩
      · obtain rfl : sn = k := by omega
        have HE : Hid (embE n s = 0) := Lib.hid (HFA.out (by have h := HFI.out; rw [← HSN.out, List.take_length] at h; exact h))
        have HRL : Hid (u.d.rg.length = 0) := Lib.hid (by rw [HUD.out]; rfl)
        have CST : Hid (Calls Tryd.prog 41 #[.agg u.lst.toArray] wr (RetMacO wr 0)) := Lib.hid (by
          have hcl : u.d.code.length ≤ 512 := by rw [HUD.out]; exact (valid_parts HV.out).2.2.1.2
          have h := sm_StartO u wr ((HF.out.grow HB2.out).grow HBK.out) (HPU2.out.grow HBK.out) (by rw [HRL.out]; omega) (by omega) (by rw [HUD.out]; exact HV.out)
          rw [HRL.out] at h
          exact h)
        have HBQ := Lib.hid (HBQ2.out.keep HBK.out)
        have HBP := Lib.hid (HBP2.out.keep HBK.out)
        have HBW := Lib.hid (below_then HB2.out HBK.out)
        have HSK := Lib.hid ((HS.out.grow HB2.out).grow HBK.out)
        have hgb : w.heap.size + 2 ≤ wr.heap.size := by have := HBP.out.1; omega
        clear HFI0 HFA HFB HBK0 HFI HBK HBQ2 HBP2 HPU2 HBN2 HLE CF
        go_upto_region 15 with (first
          | ((with_reducible show wpList _ _ _ (Oper.mk _ (.load 41 _) _ _ _ _ :: _) _ _); refine ld_prg HBQ.out (lst_ten u) rfl _ rfl rfl ?_)
          | (go_at_call 41; (with_reducible refine CST.out.mono ?_); rintro e5 w5 ⟨g0, g1, A5, c5, rfl, hne, o0, o1, o5, hb5⟩; have HNE := Lib.hid hne; have O0 := Lib.hid o0; have O1 := Lib.hid o1; have O5 := Lib.hid o5; have HB5 := Lib.hid hb5; clear hne o0 o1 o5 hb5))
        change Code.wp _ _ _ _ (w5.alloc (.cells [.slice (some ⟨g0, 0, none⟩) 8 8, .slice (some ⟨g1, 0, none⟩) 128 128, .slice A5 0 c5, .int .i64 0, .int .i64 0].toArray 32))
        have hmx : Box (w5.alloc (.cells [.slice (some ⟨g0, 0, none⟩) 8 8, .slice (some ⟨g1, 0, none⟩) 128 128, .slice A5 0 c5, .int .i64 0, .int .i64 0].toArray 32)) w5.heap.size [.slice (some ⟨g0, 0, none⟩) 8 8, .slice (some ⟨g1, 0, none⟩) 128 128, .slice A5 0 c5, .int .i64 0, .int .i64 0] := Box.new rfl
        have hnb : Below w5.heap.size w5 (w5.alloc (.cells [.slice (some ⟨g0, 0, none⟩) 8 8, .slice (some ⟨g1, 0, none⟩) 128 128, .slice A5 0 c5, .int .i64 0, .int .i64 0].toArray 32)) := (Below.refl _ _).alloc (Nat.le_refl _) _
        have hg1 := O1.out.1.lt g1 rfl
        have o0 := O0.out.grow hnb
        have o1 := O1.out.grow hnb
        have o5 := O5.out.grow hnb
        have hbp := (HBP.out.keep HB5.out).keep hnb
        have hsk := (HSK.out.grow HB5.out).grow hnb
        have hbw := below_then (below_then HBW.out HB5.out) hnb
        obtain ⟨gX, hgX⟩ : ∃ g, g = w5.heap.size := ⟨_, rfl⟩
        have hgx : g1 < gX := by omega
        rw [← hgX] at hmx ⊢
        generalize w5.alloc (.cells [.slice (some ⟨g0, 0, none⟩) 8 8, .slice (some ⟨g1, 0, none⟩) 128 128, .slice A5 0 c5, .int .i64 0, .int .i64 0].toArray 32) = w6 at hmx o0 o1 o5 hbp hsk hbw ⊢
        have HMX := Lib.hid hmx
        have P0 := Lib.hid o0
        have P1 := Lib.hid o1
        have P5 := Lib.hid o5
        have HBP6 := Lib.hid hbp
        have HSK6 := Lib.hid hsk
        have HBW6 := Lib.hid hbw
        have HG1 := Lib.hid (show w.heap.size + 2 ≤ g1 by omega)
        have y1 := hmx.2.1 1
        clear hmx hnb hg1 o0 o1 o5 hbp hsk hbw hgX O0 O1 O5 HB5 HBP HSK HBW HBQ CST
        go_wp2_with (first
          | ((with_reducible show wpList _ _ _ (Oper.mk _ (.call ⟨.builtin .copy, _, _⟩) _ _ _ _ :: _) _ _); refine copy_part rfl _ _ rfl (m := 128) (z := List.replicate 128 0) rfl rfl P1.out rfl HSK6.out HSN.out (by omega) ?_; intro w7 ho7 hg7; have HO7 := Lib.hid ho7; have HG7 := Lib.hid hg7; clear ho7 hg7)
          | ((with_reducible show wpList _ _ _ (Oper.mk _ (.load 32 _) _ _ _ _ :: _) _ _); refine ld_mac (HMX.out.grown HG7.out (by intro e; injection e with e; omega)) rfl rfl _ rfl rfl ?_)
          | ((with_reducible show wpList _ _ _ (Oper.mk none (.store 32 _ _) _ _ _ _ :: _) _ _); refine st_mac (M := zeros5) (HBP6.out.grown HG7.out (by have := HG1.out; intro e; injection e with e; omega)) rfl (L := [.slice (some ⟨g0, 0, none⟩) 8 8, .slice (some ⟨g1, 0, none⟩) 128 128, .slice A5 0 c5, .int .i64 0, .int .i64 0]) rfl rfl rfl _ _ rfl rfl rfl ?_; intro w9 hb9 hg9))
        obtain ⟨dsc, hd1, hd2⟩ := row_mac
        refine bodyPost_ret (resCT rfl _ _ w9 (g := w.heap.size + 1) (v := .agg [.slice (some ⟨g0, 0, none⟩) 8 8, .slice (some ⟨g1, 0, none⟩) 128 128, .slice A5 0 c5, .int .i64 0, .int .i64 0].toArray) rfl (res_box _ hb9 dsc hd1 hd2 size_mac)) rfl ?_
        unfold RetEmb
        rw [HE.out, if_pos rfl]
        have hml : (s ++ (List.replicate 128 (0 : Int)).drop s.length).length = 128 := by rw [List.length_append, List.length_drop, List.length_replicate, HSN.out]; omega
        have b0 := (P0.out.1.lt g0 rfl).1
        have j0 : Ints w9 (some ⟨g0, 0, none⟩) (List.replicate 8 0) := ints_kept (ints_kept P0.out.ints HG7.out (fun _ a e => by injection e with e; subst e; intro q; injection q with q; exact HNE.out q)) hg9 (fun _ a e => by injection e with e; subst e; intro q; injection q with q; have hq : g0 = w.heap.size + 1 := q; omega)
        have j1 : Ints w9 (some ⟨g1, 0, none⟩) (s ++ (List.replicate 128 0).drop s.length) := ints_kept (by rw [HSN.out]; exact HO7.out.ints) hg9 (fun _ a e => by injection e with e; subst e; have := HG1.out; intro q; injection q with q; have hq : g1 = w.heap.size + 1 := q; omega)
        refine ⟨⟨embM s, some ⟨g0, 0, none⟩, some ⟨g1, 0, none⟩, A5, 8, 128, c5⟩, rfl, ?_, ⟨j0, j1, Ints.nil⟩, Nat.le_of_eq hml, grown_to (grown_to HBW6.out HG7.out (by have := HG1.out; omega)) hg9 (by omega)⟩
        unfold MacA.v MacA.lst embM
        simp only [hml]
        rfl
  · have HE : Hid (embE n s = 1) := Lib.hid (by unfold embE; rw [HSN.out, HST.out, if_neg hlen])
    have xl : ((sn : Int) != st) = true := by simpa using hlen
    go_wp2_with ((with_reducible show wpList _ _ _ (Oper.mk none (.store 32 _ _) _ _ _ _ :: _) _ _); refine st_mac (M := zeros5) HBP2.out rfl (L := zeros5) rfl rfl rfl _ _ rfl rfl rfl ?_; intro w9 hb9 hg9)
    obtain ⟨dsc, hd1, hd2⟩ := row_mac
    refine bodyPost_ret (resCT rfl _ _ w9 (g := w.heap.size + 1) (v := .agg zeros5.toArray) rfl (res_box _ hb9 dsc hd1 hd2 size_mac)) rfl ?_
    unfold RetEmb
    rw [HE.out, if_neg (by decide)]
    exact ⟨⟨macZ, none, none, none, 0, 0, 0⟩, rfl, rfl, ⟨Ints.nil, Ints.nil, Ints.nil⟩, Nat.le_refl _, grown_to HB2.out hg9 (by omega)⟩
end Go.Proofs.YtdiflpbioohddaaDoor
end
section
namespace Go.Proofs.YtdiflpbioohddaaDoor
open Go.RowKit
def RetIntE (w : World) (l : List Int) (er : Int) (e : Ending) (w' : World) : Prop := ∃ (A : Option Addr) (c : Nat), e = .returned (.tuple #[.slice A l.length c, .int .i64 er]) ∧ Own w.heap.size w' (.slice A l.length c) l ∧ Below w.heap.size w w'
def extE (d : PrgD) (m : Mac) : Int := if macB d m = true then 0 else 1
def extL (n : NetD) (m : Mac) : List Int := if macB n.prg m = true then m.mem.take n.nx.length else []
def RetExt (w : World) (n : NetD) (m : Mac) (e : Ending) (w' : World) : Prop := RetIntE w (extL n m) (extE n.prg m) e w'
set_option maxRecDepth 100000 in
set_option maxHeartbeats 4000000 in
theorem cg_Extract_ok (n : NetD) (NA XA : Option Addr) (nc xc : Nat) (x : MacA) (w : World) (hf : FormsAt w) (hn : NetAt w n NA XA) (hok : n.ok = true) (hv : validB n.prg = true) (hx : MacAt w x) (hm9 : MacLen x.m) (hmc : x.m.mem.length ≤ x.mc) :
    Calls Tryd.prog 12 #[.agg (n.lst NA nc XA xc).toArray, x.v] w (RetExt w n x.m) := by
  have CC : Hid (∀ w1, Below w.heap.size w w1 → Calls Tryd.prog 10 #[.agg (n.lst NA nc XA xc).toArray] w1 (RetPrgE w1 n.prg 0)) := fun w1 hb => cg_Compile_ok n NA XA nc xc w1 (hf.grow hb) (hn.grow hb) hok hv
  obtain ⟨-, -, ⟨p2, p3⟩, -, p5, -, -, -, -⟩ := netB_parts hok
  have HLL : Hid ((n.lst NA nc XA xc).length = 12) := Lib.hid rfl
  have HLE : Hid (∀ W, Box W w.heap.size (n.lst NA nc XA xc) → W.cell? ⟨w.heap.size, 8, none⟩ = some (.int .i64 n.st)) := Lib.hid fun W h => h.2.1 8
  obtain ⟨R, hR⟩ : ∃ b, macB n.prg x.m = b := ⟨_, rfl⟩
  have HR := Lib.hid hR
  have CM : Hid (∀ (u : PrgA) w1, u.d = n.prg → PrgAt w1 u → Below w.heap.size w w1 → Calls Tryd.prog 42 #[.agg u.lst.toArray, .agg x.lst.toArray] w1 fun e w' => e = .returned (.bool R) ∧ Below w1.heap.size w1 w') := Lib.hid fun u w1 hu hp hb => by
    have h512 := (valid_parts hv).2.2.1.2
    exact sm_Valid u x w1 (hf.grow hb) hp (hx.grow hb) (by rw [hu]; show 0 ≤ _; omega) (by rw [hu]; omega) hm9 (by rw [hu]; exact hR)
  obtain ⟨sn, hsn⟩ : ∃ k, n.nx.length = k := ⟨_, rfl⟩
  have HSN := Lib.hid hsn
  rw [hsn] at p5
  obtain ⟨st, hst⟩ : ∃ t, n.st = t := ⟨_, rfl⟩
  rw [hst] at p2 p3 p5 HLE
  have HX := Lib.hid hx
  have HMC := Lib.hid hmc
  generalize n.lst NA nc XA xc = L at CC HLL HLE ⊢
  have em : x.v = .agg x.lst.toArray := rfl
  rw [em]
  clear em hf hn hok hv hx hm9 hsn hst hR hmc
  subst p5
  have hsn64 : sn ≤ 64 := by omega
  go_enter Tryd.func12, Tryd.ntmps12
  go_upto_region 1 with fail
  obtain ⟨bn, bp, hb0⟩ := entryNM (t := 27) (u := 32) w L x.lst _ rfl
  change Code.wp _ _ _ _ ((w.alloc (.cells L.toArray 27)).alloc (.cells x.lst.toArray 32))
  generalize ((w.alloc (.cells L.toArray 27)).alloc (.cells x.lst.toArray 32)) = W0 at bn bp hb0 ⊢
  have HBN := Lib.hid bn
  have HBP := Lib.hid bp
  have HB0 := Lib.hid hb0
  clear bn bp hb0
  go_upto_region 4 with (first
    | ((with_reducible show wpList _ _ _ (Oper.mk _ (.load 27 _) _ _ _ _ :: _) _ _); refine ld_netB1 HBN.out (by simpa using HLL.out) rfl _ rfl rfl ?_)
    | (go_at_call 10; (with_reducible refine (CC.out _ HB0.out).mono ?_); rintro e1 w1 ⟨u, hud, rfl, hpu, hb1⟩; have HB1 := Lib.hid hb1; have HUD := Lib.hid hud; have HPU := Lib.hid hpu; clear hb1 hpu hud)
    | ((with_reducible show wpList _ _ _ (Oper.mk none (.store 41 _ _) _ _ _ _ :: _) _ _); refine st_prgB (M := zeros10) (Box.new rfl) rfl (L := u.lst) rfl rfl rfl _ _ rfl rfl rfl ?_; intro w2 hb2 hg2; have HBQ2 := Lib.hid hb2; have HG2 := Lib.hid hg2; clear hg2 hb2))
  have hb1 := below_then HB0.out HB1.out
  have hba : Below w1.heap.size w1 w2 := grown_to ((Below.refl w1.heap.size w1).alloc (Nat.le_refl _) _) HG2.out (Nat.le_refl _)
  have HB2 := Lib.hid (below_then hb1 hba)
  have HBN2 := Lib.hid ((HBN.out.keep HB1.out).keep hba)
  have HBP2 := Lib.hid ((HBP.out.keep HB1.out).keep hba)
  have HPU2 := Lib.hid (HPU.out.grow hba)
  obtain ⟨gQ, hgQ⟩ : ∃ g, g = w1.heap.size := ⟨_, rfl⟩
  rw [← hgQ] at HBQ2 ⊢
  clear hb1 hba HG2 HB1 HBN HBP HPU HB0 CC hgQ
  cases R with
  | false =>
    go_wp2_with (first
      | ((with_reducible show wpList _ _ _ (Oper.mk _ (.load 41 _) _ _ _ _ :: _) _ _); refine ld_prg HBQ2.out (lst_ten u) rfl _ rfl rfl ?_)
      | ((with_reducible show wpList _ _ _ (Oper.mk _ (.load 32 _) _ _ _ _ :: _) _ _); refine ld_mac HBP2.out rfl rfl _ rfl rfl ?_)
      | (go_at_call 42; (with_reducible refine (CM.out u _ HUD.out HPU2.out HB2.out).mono ?_); rintro e5 w5 ⟨rfl, hb5⟩))
    go_ret2
    have e1 : extL n x.m = [] := by unfold extL; rw [HR.out]; rfl
    have e2 : extE n.prg x.m = 1 := by unfold extE; rw [HR.out]; rfl
    unfold RetExt
    rw [e1, e2]
    exact ⟨none, 0, rfl, Own.nil, below_then HB2.out hb5⟩
  | true =>
    obtain ⟨-, hmo, -⟩ := macB_parts HR.out
    have HML : Hid (x.m.mem.length = 128) := Lib.hid hmo.ml
    have HXM : Hid (∀ W, Box W (w.heap.size + 1) x.lst → W.cell? ⟨w.heap.size + 1, 1, none⟩ = some (.slice x.MA 128 x.mc)) := Lib.hid fun W h => (h.2.1 1).trans (by unfold MacA.lst; rw [HML.out]; rfl)
    have hmc : 128 ≤ x.mc := by have := HMC.out; have := HML.out; omega
    have HT : Hid (Ints w x.MA (x.m.mem.take sn) ∧ (x.m.mem.take sn).length = sn) := Lib.hid ⟨HX.out.2.1.takeL sn, by rw [List.length_take, HML.out]; omega⟩
    have HEL : Hid (extL n x.m = x.m.mem.take sn ∧ extE n.prg x.m = 0) := Lib.hid ⟨by unfold extL; rw [HR.out, HSN.out, if_pos rfl], by unfold extE; rw [HR.out]; rfl⟩
    generalize x.m.mem.take sn = tk at HT HEL
    obtain ⟨mc, hmce⟩ : ∃ k, x.mc = k := ⟨_, rfl⟩
    rw [hmce] at hmc HXM
    have x1 : decide ((sn : Int) < 0) = false := decide_eq_false (by omega)
    have x2 : decide ((mc : Int) < (sn : Int)) = false := decide_eq_false (by omega)
    clear hmo hmce
    obtain ⟨XMA, hXMA⟩ : ∃ a, x.MA = a := ⟨_, rfl⟩
    obtain ⟨ad, hsome⟩ : ∃ ad, XMA = some ad := by
      obtain ⟨ad, _, e, _⟩ := HX.out.2.1.at_ (k := 0) (by rw [HML.out]; omega)
      exact ⟨ad, hXMA.symm.trans e⟩
    rw [hXMA] at HXM HT
    subst hsome
    clear hXMA
    go_upto_region 6 with (first
      | ((with_reducible show wpList _ _ _ (Oper.mk _ (.load 41 _) _ _ _ _ :: _) _ _); refine ld_prg HBQ2.out (lst_ten u) rfl _ rfl rfl ?_)
      | ((with_reducible show wpList _ _ _ (Oper.mk _ (.load 32 _) _ _ _ _ :: _) _ _); refine ld_mac HBP2.out rfl rfl _ rfl rfl ?_)
      | (go_at_call 42; (with_reducible refine (CM.out u _ HUD.out HPU2.out HB2.out).mono ?_); rintro e5 w5 ⟨rfl, hb5⟩; have zS := HLE.out _ (HBN2.out.keep hb5); have zM := HXM.out _ (HBP2.out.keep hb5); have HB5 := Lib.hid (below_then HB2.out hb5); clear hb5))
    have HTW := Lib.hid (HT.out.1.grow HB5.out)
    go_wp2_with (go_at_call 43; (with_reducible refine (sl_CloneI _ _ _ _ _ HTW.out HT.out.2 (by omega)).mono ?_); rintro e7 w7 ⟨v7, rfl, ho7, hb7⟩)
    go_ret2
    obtain ⟨A7, c7, rfl, -, -⟩ := ho7.form
    unfold RetExt
    rw [HEL.out.1, HEL.out.2]
    exact ⟨A7, c7, rfl, ho7.base HB5.out.size, below_then HB5.out hb7⟩
end Go.Proofs.YtdiflpbioohddaaDoor
end
