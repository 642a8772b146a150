/- Several texts in one: T3 T4 E5 E6 E7. -/
import Derived.Test.YtdiflpbioohddaaDoortE1toI0
import Derived.Test.YtdiflpbioohddaaDoortJ
import Derived.Test.YtdiflpbioohddaaDoortG9toVc
import Derived.Test.YtdiflpbioohddaaDoortE2
import Derived.Laws.EntriesVeiled
set_option linter.unusedVariables false
set_option linter.unusedSimpArgs false
section
namespace Go.Proofs.YtdiflpbioohddaaDoor
open Go.RowKit
theorem fits_cons {d0 d1 d2 d3 x : Int} {s : List Int} (h1 : fitsW d0 d1 d2 d3 x = true) (h2 : ∀ v ∈ s, fitsW d0 d1 d2 d3 v = true) : ∀ v ∈ x :: s, fitsW d0 d1 d2 d3 v = true := fun v hv => by
 rcases List.mem_cons.1 hv with rfl | h
 ·exact h1
 ·exact h2 v h
theorem sumT_succ {ts : List (Int × Int)} {vs : List Int} {i : Nat} {t : Int × Int} (h : ts[i]? = some t) : sumT ts vs (i + 1) = sumT ts vs i + t.2 * atF vs t.1 := by
 show sumT ts vs i + _ = _
 rw [h]
theorem sum_step {ts : List (Int × Int)} {vs : List Int} {i : Nat} {f c y : Int} (ht : ∀ t ∈ ts, -8388608 ≤ t.2 ∧ t.2 ≤ 8388608) (hv : ∀ v ∈ vs, -8388608 ≤ v ∧ v ≤ 8388608) (h64 : ts.length ≤ 64) (h : ts[i]? = some (f, c)) (hy : atF vs f = y) :
  sumT ts vs (i + 1) = sumT ts vs i + c * y ∧ IntKind.i64.wrap (c * y) = c * y ∧ IntKind.i64.wrap (sumT ts vs i + c * y) = sumT ts vs i + c * y := by
 have h1 := sumT_succ (vs := vs) h
 simp only at h1
 rw [hy] at h1
 have hi := (List.getElem?_eq_some_iff.1 h).1
 have b1 := prod_46 (ht _ (List.mem_of_getElem? h)) (atF_23 hv f)
 rw [hy] at b1
 simp only at b1
 have b2 := sumT_bound ht hv (i + 1)
 rw [h1] at b2
 exact ⟨h1, IntWalk.i64_in _ (by omega), IntWalk.i64_in _ (by omega)⟩
theorem sum_i64 {ts : List (Int × Int)} {vs : List Int} (ht : ∀ t ∈ ts, -8388608 ≤ t.2 ∧ t.2 ≤ 8388608) (hv : ∀ v ∈ vs, -8388608 ≤ v ∧ v ≤ 8388608) (h64 : ts.length ≤ 64) : I64 (sumT ts vs ts.length) := by
 have := sumT_bound ht hv ts.length
 constructor <;> omega
def RetVals (w : World) (l : List Int) (o : Bool) (e : Ending) (w' : World) : Prop := ∃ v, e = .returned (.tuple #[v, .bool o]) ∧ Own w.heap.size w' v l ∧ Below w.heap.size w w'
set_option maxHeartbeats 1000000 in
theorem nw_wrong (d0 d1 d2 d3 c0 c1 c2 c3 st out : Int) (NA XA SA IA : Option Addr) (nc xc sn sc im ic : Nat) (ns : List (List (Int × Int))) (nx s is : List Int) (w : World) (hN : NodesAt w NA ns) (hX : Ints w XA nx) (hS : Ints w SA s) (hI : Ints w IA is)
  (hsn : s.length = sn) (him : is.length = im) (hst : (sn : Int) = st) (hs9 : sn ≤ 1000000) (hi9 : im ≤ 1000000) (hfs : ∀ v ∈ s, fitsW d0 d1 d2 d3 v = true) (hfi : ∀ v ∈ is, fitsW d0 d1 d2 d3 v = true) :
  Calls Tryd.prog 52 #[netV d0 d1 d2 d3 c0 c1 c2 c3 st NA ns.length nc XA nx.length xc out, .slice SA sn sc, .slice IA im ic] w fun e w' => e = .returned (.int .i64 0) ∧ Below w.heap.size w w' := by
 subst hst
 obtain ⟨xn, hxn⟩ : ∃ n, nx.length = n := ⟨_, rfl⟩
 obtain ⟨nn, hnn⟩ : ∃ n, ns.length = n := ⟨_, rfl⟩
 obtain ⟨P, HP0, PN0⟩ := netQ_mk w d0 d1 d2 d3 c0 c1 c2 c3 (sn : Int) NA ns ns.length nc XA nx nx.length xc out hN hX
 rw [hxn, hnn] at HP0 PN0
 unfold netV
 rw [hnn, hxn]
 have HP := Lib.hid HP0
 have PN := Lib.hid PN0
 have HFS := Lib.hid hfs
 have HFI := Lib.hid hfi
 have HS := Lib.hid hS
 have HI := Lib.hid hI
 have HSN := Lib.hid hsn
 have HIM := Lib.hid him
 have FT : Hid (∀ v w, fitsW d0 d1 d2 d3 v = true → Calls Tryd.prog 40 #[wordV d0 d1 d2 d3, .int .i64 v] w fun e w' => e = .returned (.bool true) ∧ Below w.heap.size w w') := fun v w h => by have := fx_Fits d0 d1 d2 d3 v w; rw [h] at this; exact this
 clear HP0 PN0 hnn hxn hN hX hS hI hfs hfi hsn him
 go_enter Tryd.func52, Tryd.ntmps52
 go_wp2_with fail
 go_loopw [18] (fun i wr => ∃ k : Nat, k ≤ sn ∧ i = .int .i64 k ∧ P wr) (fun i _ => sn - (intOf i).toNat)
 case atStart => exact ⟨0, Nat.zero_le _, rfl, HP.out⟩
 case round =>
  obtain ⟨k, hk, rfl, hp⟩ := hrel
  obtain ⟨z1, z2, z3, z4⟩ := PN.out.dat _ hp
  have hlw := PN.out.lt _ hp
  by_cases hlt : k < sn
  ·obtain ⟨ad, y, rfl, hba, hy, hcy, y1, y2⟩ := (HS.out.grow (PN.out.old _ hp)).at_ (k := k) (by rw [HSN.out]; exact hlt)
   have hf := HFS.out y (List.mem_of_getElem? hy)
   have HF := Lib.hid hf
   have HPP := Lib.hid hp
   have x1 : (0 : Int) ≤ (k : Int) := by omega
   have x2 : (k : Int) < (sn : Int) := by omega
   clear hy hf hp
   go_wp2_with (first | (go_at_call 40; with_reducible refine (FT.out _ _ HF.out).mono ?_; rintro e w1 ⟨rfl, hb1⟩))
   go_roundw
   case rel => exact ⟨k + 1, by omega, by go_num, PN.out.go1 HPP.out hb1⟩
   case measure => simp [intOf]; omega
  ·obtain rfl : k = sn := by omega
   have HPP := Lib.hid hp
   clear hp z1 z2 z3 z4
   go_wp2_with fail
   go_loopw [30] (fun i wr => ∃ k : Nat, k ≤ im ∧ i = .int .i64 k ∧ P wr) (fun i _ => im - (intOf i).toNat)
   case atStart => exact ⟨0, Nat.zero_le _, rfl, HPP.out⟩
   case round =>
    obtain ⟨j, hj, rfl, hp⟩ := hrel
    obtain ⟨z1, z2, z3, z4⟩ := PN.out.dat _ hp
    have hlw := PN.out.lt _ hp
    by_cases hlt2 : j < im
    ·obtain ⟨ad, y, rfl, hba, hy, hcy, y1, y2⟩ := (HI.out.grow (PN.out.old _ hp)).at_ (k := j) (by rw [HIM.out]; exact hlt2)
     have hf := HFI.out y (List.mem_of_getElem? hy)
     have HF := Lib.hid hf
     have HPP := Lib.hid hp
     have x1 : (0 : Int) ≤ (j : Int) := by omega
     have x2 : (j : Int) < (im : Int) := by omega
     clear hy hf hp
     go_wp2_with (first | (go_at_call 40; with_reducible refine (FT.out _ _ HF.out).mono ?_; rintro e w1 ⟨rfl, hb1⟩))
     go_roundw
     case rel => exact ⟨j + 1, by omega, by go_num, PN.out.go1 HPP.out hb1⟩
     case measure => simp [intOf]; omega
    ·obtain rfl : j = im := by omega
     have HPP := Lib.hid hp
     clear hp
     go_wp2_with fail
     go_ret
     exact ⟨rfl, PN.out.old _ HPP.out⟩
set_option maxRecDepth 100000 in
set_option maxHeartbeats 2000000 in
theorem nw_compute (d0 d1 d2 d3 c0 c1 c2 c3 st out x : Int) (NA XA SA : Option Addr) (nc xc sn sc : Nat) (ns : List (List (Int × Int))) (nx s : List Int) (w : World) (hok : netB d0 d1 d2 d3 c0 c1 c2 c3 st ns nx out = true) (hN : NodesAt w NA ns) (hX : Ints w XA nx) (hS : Ints w SA s)
  (hsn : s.length = sn) (hst : (sn : Int) = st) (hfs : ∀ v ∈ s, fitsW d0 d1 d2 d3 v = true) (hfx : fitsW d0 d1 d2 d3 x = true) :
  Calls Tryd.prog 53 #[netV d0 d1 d2 d3 c0 c1 c2 c3 st NA ns.length nc XA nx.length xc out, .slice SA sn sc, .int .i64 x] w (RetVals w (valsF d0 d1 d2 d3 c1 ns (x :: s) ns.length) (overF d0 d1 d2 d3 c1 ns (x :: s) ns.length)) := by
 subst hst
 obtain ⟨p1, p2, p3, p4, -, p5, -, -⟩ := netB_parts hok
 obtain ⟨xn, hxn⟩ : ∃ n, nx.length = n := ⟨_, rfl⟩
 obtain ⟨nn, hnn⟩ : ∃ n, ns.length = n := ⟨_, rfl⟩
 obtain ⟨P, HP0, PN0⟩ := netQ_mk w d0 d1 d2 d3 c0 c1 c2 c3 (sn : Int) NA ns ns.length nc XA nx nx.length xc out hN hX
 rw [hxn, hnn] at HP0 PN0
 unfold netV
 rw [hnn, hxn]
 rw [hnn] at p4
 have hx23 := fits_23 hfx
 have HLEN : Hid (∀ k, k ≤ nn → (valsF d0 d1 d2 d3 c1 ns (x :: s) k).length = 1 + sn + k) := fun k hk => by rw [valsF_length _ _ _ _ _ _ _ k (by omega), List.length_cons, hsn]; omega
 have HB : Hid (∀ k, ∀ v ∈ valsF d0 d1 d2 d3 c1 ns (x :: s) k, -8388608 ≤ v ∧ v ≤ 8388608) := fun k v hv => fits_23 (valsF_fits p1 (fits_cons hfx hfs) k v hv)
 have HP := Lib.hid HP0
 have PN := Lib.hid PN0
 have HTS := Lib.hid p5
 have HS := Lib.hid hS
 have HSN := Lib.hid hsn
 have HNN := Lib.hid hnn
 clear HP0 PN0 hnn hxn hN hX hS hfs hfx hsn p5 p1 p2 hok
 have hs64 : sn ≤ 64 := by omega
 clear p3
 have HSZ : Hid (∀ o, (w.alloc o).heap.size = w.heap.size + 1) := Lib.hid (fun o => by simp)
 go_enter Tryd.func53, Tryd.ntmps53
 go_wp2_with (first
  | (at_make; refine mk_int0 rfl _ _ rfl (w.heap.size + 1) (1 + sn + nn) rfl rfl (by push_cast; rfl) (by omega) (by simp) ?_; intro w1 hown1 hb1; rw [show (w.alloc (.cells #[.int .i64 d0, .int .i64 d1, .int .i64 d2, .int .i64 d3, .int .i64 c0, .int .i64 c1, .int .i64 c2, .int .i64 c3, .int .i64 (sn : Int), .slice NA nn nc, .slice XA xn xc, .int .i64 out] 27)).heap.size = w.heap.size + 1 from HSZ.out _] at hown1; have hp1 := PN.out.go1 HP.out hb1; obtain ⟨z1, z2, z3, z4⟩ := PN.out.res _ hp1; have hs1 := PN.out.lt _ hp1)
  | (at_builtin; refine app_int w1 rfl _ _ rfl (w.heap.size + 1) hown1 rfl rfl (by simp) hs1 (y := x) ⟨by omega, by omega⟩ ?_; intro v2 w2 hown2 hb2; have hp2 := PN.out.go _ _ hp1 hb2; obtain ⟨z1, z2, z3, z4⟩ := PN.out.res _ hp2; have hs2 := PN.out.lt _ hp2; have hI2 := HS.out.grow (PN.out.old _ hp2))
  | (at_builtin; refine app_intsN w2 rfl _ _ rfl (w.heap.size + 1) (m := s) rfl rfl HSN.out hown2 hI2 (by simp; omega) hs2 ?_; intro v3 w3 hown3 hb3; have hp3 := PN.out.go _ _ hp2 hb3; obtain ⟨z1, z2, z3, z4⟩ := PN.out.res _ hp3))
 have HO3 : Hid (Own (w.heap.size + 1) w3 v3 (valsF d0 d1 d2 d3 c1 ns (x :: s) 0)) := hown3
 have HP3 := Lib.hid hp3
 clear hp3 hown3 hb3 z1 z2 z3 z4 hp2 hown2 hb2 hI2 hp1 hown1 hb1 hs1 hs2 hx23
 go_loopw [8, 9, 34] (fun v o i wr => ∃ k : Nat, k ≤ nn ∧ i = .int .i64 k ∧ o = .bool (overF d0 d1 d2 d3 c1 ns (x :: s) k) ∧ Hid (Own (w.heap.size + 1) wr v (valsF d0 d1 d2 d3 c1 ns (x :: s) k)) ∧ P wr) (fun _ _ i _ => nn - (intOf i).toNat)
 case atStart => exact ⟨0, Nat.zero_le _, rfl, rfl, HO3, HP3.out⟩
 case round =>
  obtain ⟨k, hk, rfl, rfl, HO, hp⟩ := hrel
  have hlw := PN.out.lt _ hp
  by_cases hlt : k < nn
  ·obtain ⟨ts, hts⟩ : ∃ ts, ns[k]? = some ts := ⟨_, List.getElem?_eq_getElem (by rw [HNN.out]; exact hlt)⟩
   obtain ⟨ad, B, bc, rfl, hba, cn, hT⟩ := PN.out.nodes _ hp k ts hts
   obtain ⟨hl64, hterms⟩ := HTS.out k ts hts
   obtain ⟨vs, hvs⟩ : ∃ vs, valsF d0 d1 d2 d3 c1 ns (x :: s) k = vs := ⟨_, rfl⟩
   have hsucc := valsF_succ (d0 := d0) (d1 := d1) (d2 := d2) (d3 := d3) (c1 := c1) (x := x :: s) hts
   have hover := overF_succ (d0 := d0) (d1 := d1) (d2 := d2) (d3 := d3) (c1 := c1) (x := x :: s) hts
   have hvl := HLEN.out k (by omega)
   have hvb := HB.out k
   rw [hvs] at hsucc hover hvl hvb HO
   obtain ⟨ov, hov⟩ : ∃ ov, overF d0 d1 d2 d3 c1 ns (x :: s) k = ov := ⟨_, rfl⟩
   rw [hov] at hover ⊢
   obtain ⟨U, hU⟩ : ∃ U, nodeV d2 c1 vs ts = U := ⟨_, rfl⟩
   have hU2 : shiftF (sumT ts vs ts.length) c1 d2 = U := hU
   rw [hU] at hsucc hover
   have HSUCC := Lib.hid hsucc
   have HOVER := Lib.hid hover
   have HU2 := Lib.hid hU2
   have HVL := Lib.hid hvl
   have HVB := Lib.hid hvb
   have HTE := Lib.hid hterms
   have HSI := Lib.hid (sum_i64 (fun t ht => (hterms t ht).2) hvb hl64)
   have HPP := Lib.hid (PN.out.al hp (.cells #[.slice B ts.length bc] 36))
   have HTA := Lib.hid (hT.grow (Below.alloc (Below.refl wr.heap.size wr) (Nat.le_refl _) (.cells #[.slice B ts.length bc] 36)))
   have HOA := Lib.hid (HO.out.grow (Below.alloc (Below.refl wr.heap.size wr) (Nat.le_refl _) (.cells #[.slice B ts.length bc] 36)))
   have y1 : (0 : Int) ≤ (k : Int) := by omega
   have y2 : (k : Int) < (nn : Int) := by omega
   clear hp hT hts hsucc hover hvl hvb hterms hvs hov hU hU2 HO
   obtain ⟨VA, vcap, e8, hcap, -⟩ := HOA.out.form
   subst e8
   obtain ⟨vn, hvn⟩ : ∃ vn, vs.length = vn := ⟨_, rfl⟩
   rw [hvn] at HOA hcap ⊢
   have HVK : Hid (vn = 1 + sn + k) := Lib.hid (by rw [← hvn]; exact HVL.out)
   have HVN := Lib.hid hvn
   clear hvn hcap
   go_wp2_with fail
   clear cn
   obtain ⟨wo, rfl⟩ : ∃ wo : World, wo = wr := ⟨_, rfl⟩
   go_loopw [12, 41] (fun u i wr => ∃ j : Nat, j ≤ ts.length ∧ i = .int .i64 j ∧ u = .int .i64 (sumT ts vs j) ∧ P wr ∧ TermsAt wr B ts ∧ Hid (Own (w.heap.size + 1) wr (.slice VA vn vcap) vs)) (fun _ i _ => ts.length - (intOf i).toNat)
   case atStart => exact ⟨0, Nat.zero_le _, rfl, rfl, HPP.out, HTA.out, HOA⟩
   case round =>
    obtain ⟨j, hj, rfl, rfl, hp, hT, HO⟩ := hrel
    have hlw := PN.out.lt _ hp
    obtain ⟨z1, z2, z3, z4⟩ := PN.out.dat _ hp
    obtain ⟨t1, t2, t3, t4⟩ := PN.out.coe _ hp
    by_cases hltj : j < ts.length
    ·obtain ⟨tm, htm⟩ : ∃ tm, ts[j]? = some tm := ⟨_, List.getElem?_eq_getElem hltj⟩
     obtain ⟨a2, rfl, hb2, ct0, ct1, i1, i2⟩ := hT j tm htm
     obtain ⟨⟨f1, f2⟩, f3, f4⟩ := HTE.out tm (List.mem_of_getElem? htm)
     obtain ⟨f, cv⟩ := tm
     simp only at ct0 ct1 i1 i2 f1 f2 f3 f4
     obtain ⟨q, rfl⟩ : ∃ q : Nat, f = (q : Int) := ⟨f.toNat, by omega⟩
     obtain ⟨A', c', eA, -, hIV⟩ := HO.out.form
     rw [HVN.out] at eA
     injection eA with eA1 eA2 eA3
     subst eA1
     obtain ⟨av, z, rfl, hbv, hz, hcz, -, -⟩ := hIV.at_ (k := q) (by rw [HVN.out, HVK.out]; omega)
     obtain ⟨s1, s2, s3⟩ := sum_step (fun t ht => (HTE.out t ht).2) HVB.out hl64 htm (atF_nat hz)
     have HS1 := Lib.hid s1
     have x2 : (0 : Int) ≤ (j : Int) := by omega
     have x3 : (j : Int) < (ts.length : Int) := by omega
     have hcz2 : (wr.alloc (.cells #[.int .i64 (q : Int), .int .i64 cv] 80)).cell? (av.add q) = some (.int .i64 z) := ((Below.alloc (Below.refl wr.heap.size wr) (Nat.le_refl _) _).cell (by rw [block_add]; exact hbv)).trans hcz
     have x4 : (q : Int) < (vn : Int) := by rw [HVK.out]; omega
     have HBA : Hid (∀ n, Below wr.heap.size wr ((wr.alloc (.cells #[.int .i64 (q : Int), .int .i64 cv] 80)).drewN n)) := Lib.hid (fun n => below_drewN ((Below.refl wr.heap.size wr).alloc (Nat.le_refl _) _) n)
     have HP2 := Lib.hid hp
     have HT2 := Lib.hid hT
     clear htm hT hp i1 i2 s1 hz hIV z1 z2 z3 z4 t1 t2 t3 t4 f1 f2 f3 f4 eA2 eA3
     go_wp2_with fail
     go_quiet (fail)
     go_wp2_with fail
     go_roundw
     case rel => exact ⟨j + 1, by omega, by go_num, by rw [HS1.out], PN.out.go1 HP2.out (HBA.out _), HT2.out.grow (HBA.out _), HO.out.grow (HBA.out _)⟩
     case measure => simp [intOf]; omega
    ·obtain rfl : j = ts.length := by omega
     have hsi := HSI.out
     have HPP := Lib.hid hp
     clear hp hT z4 t4
     have FSh : Hid (∀ w, Calls Tryd.prog 78 #[.int .i64 (sumT ts vs ts.length), .int .i64 c1, .int .i64 d2] w fun e w' => e = .returned (.int .i64 U) ∧ Below w.heap.size w w') := Lib.hid (fun w => by have := fx_Shift (sumT ts vs ts.length) c1 d2 w hsi; rw [HU2.out] at this; exact this)
     obtain ⟨R, hR⟩ : ∃ R, reduceW d0 d1 d2 d3 U = R := ⟨_, rfl⟩
     have hR23 : -8388608 ≤ R ∧ R ≤ 8388608 := HB.out (k + 1) R (by rw [HSUCC.out, ← hR]; simp)
     have FR : Hid (∀ w, Calls Tryd.prog 79 #[wordV d0 d1 d2 d3, .int .i64 U] w fun e w' => e = .returned (.int .i64 R) ∧ Below w.heap.size w w') := Lib.hid (fun w => by have := fx_Reduce d0 d1 d2 d3 U w; rw [hR] at this; exact this)
     have HR := Lib.hid hR
     obtain ⟨fu, hfu⟩ : ∃ fu, fitsW d0 d1 d2 d3 U = fu := ⟨_, rfl⟩
     have FF : Hid (∀ w, Calls Tryd.prog 40 #[wordV d0 d1 d2 d3, .int .i64 U] w fun e w' => e = .returned (.bool fu) ∧ Below w.heap.size w w') := Lib.hid (fun w => by have := fx_Fits d0 d1 d2 d3 U w; rw [hfu] at this; exact this)
     have HFU := Lib.hid hfu
     have hvl : vs.length < 100000000 := by rw [HVL.out]; omega
     clear hR hfu
     rcases ov with _ | _
     ·go_wp2_with (first
       | (go_at_call 78; with_reducible refine (FSh.out _).mono ?_; rintro e w4 ⟨rfl, hb4⟩; have hp4 := PN.out.go1 HPP.out hb4; obtain ⟨z1, z2, z3, z4⟩ := PN.out.dat _ hp4; have ho4 := HO.out.grow hb4)
       | (go_at_call 40; with_reducible refine (FF.out _).mono ?_; rintro e w5 ⟨rfl, hb5⟩; have hp5 := PN.out.go1 hp4 hb5; obtain ⟨z1, z2, z3, z4⟩ := PN.out.dat _ hp5; have ho5 := ho4.grow hb5)
       | (go_at_call 79; with_reducible refine (FR.out _).mono ?_; rintro e w6 ⟨rfl, hb6⟩; have hp6 := PN.out.go1 hp5 hb6; have ho6 := ho5.grow hb6; have hs6 := PN.out.lt _ hp6)
       | (at_builtin; refine app_int w6 rfl _ _ rfl (w.heap.size + 1) ho6 rfl rfl hvl hs6 (y := R) ⟨by omega, by omega⟩ ?_; intro v7 w7 ho7 hb7; have hp7 := PN.out.go _ _ hp6 hb7))
      go_roundw
      case rel => exact ⟨k + 1, by omega, by go_num, by rw [HOVER.out, HFU.out]; rfl, by rw [HSUCC.out, HR.out]; exact ho7, hp7⟩
      case measure => simp [intOf]; omega
     ·go_wp2_with (first
       | (go_at_call 78; with_reducible refine (FSh.out _).mono ?_; rintro e w4 ⟨rfl, hb4⟩; have hp4 := PN.out.go1 HPP.out hb4; obtain ⟨z1, z2, z3, z4⟩ := PN.out.dat _ hp4; have ho4 := HO.out.grow hb4)
       | (go_at_call 79; with_reducible refine (FR.out _).mono ?_; rintro e w6 ⟨rfl, hb6⟩; have hp6 := PN.out.go1 hp4 hb6; have ho6 := ho4.grow hb6; have hs6 := PN.out.lt _ hp6)
       | (at_builtin; refine app_int w6 rfl _ _ rfl (w.heap.size + 1) ho6 rfl rfl hvl hs6 (y := R) ⟨by omega, by omega⟩ ?_; intro v7 w7 ho7 hb7; have hp7 := PN.out.go _ _ hp6 hb7))
      go_roundw
      case rel => exact ⟨k + 1, by omega, by go_num, by rw [HOVER.out]; rfl, by rw [HSUCC.out, HR.out]; exact ho7, hp7⟩
      case measure => simp [intOf]; omega
  ·have hkk : k = nn := by omega
   subst hkk
   have HPP := Lib.hid hp
   clear hp
   go_wp2_with fail
   go_ret2
   exact ⟨_, rfl, HO.out.base (Nat.le_succ _), PN.out.old _ HPP.out⟩
end Go.Proofs.YtdiflpbioohddaaDoor
end
section
namespace Go.Proofs.YtdiflpbioohddaaDoor
open Go.RowKit
theorem results_tmp4 {fn : Func} {t u v x : Tmp} (h : fn.results = #[.tmp t, .tmp u, .tmp v, .tmp x]) (tmps : Array Value) (P : Program) (w : World) :
  (results fn tmps).run P w = .ok (.tuple #[tmps.getD t undef, tmps.getD u undef, tmps.getD v undef, tmps.getD x undef]) w := by
 simp [results, h]
theorem vals_at {d0 d1 d2 d3 c0 c1 c2 c3 st out x : Int} {ns : List (List (Int × Int))} {nx s : List Int} (h : netB d0 d1 d2 d3 c0 c1 c2 c3 st ns nx out = true) (hs : (s.length : Int) = st) :
  (valsF d0 d1 d2 d3 c1 ns (x :: s) ns.length).length = 1 + s.length + ns.length := by
 rw [valsF_length _ _ _ _ _ _ _ _ (Nat.le_refl _), List.length_cons]; omega
end Go.Proofs.YtdiflpbioohddaaDoor
end
section
namespace Go.Proofs.YtdiflpbioohddaaDoor
open Go.RowKit
def InsAt (w : World) (A : Option Addr) (l : List Ins) : Prop := ∀ (k : Nat) i, l[k]? = some i → ∃ ad, A = some ad ∧ ad.spot = none ∧ ad.block < w.heap.size ∧ w.rangeAt ad.block (ad.off + k * 4) i.cells ∧ i.ok
theorem range_keepI {w w' : World} {b o : Nat} {cs : List Value} {B : Nat} (h : w.rangeAt b o cs) (hb : b < B) (hB : Below B w w') : w'.rangeAt b o cs := fun j v hj => (hB.cell (p := ⟨b, o + j, none⟩) hb).trans (h j v hj)
theorem InsAt.grow {w w' : World} {A : Option Addr} {l : List Ins} (h : InsAt w A l) (hb : Below w.heap.size w w') : InsAt w' A l := fun k i hk => by
 obtain ⟨ad, e, h1, h2, h3, h4⟩ := h k i hk
 exact ⟨ad, e, h1, Nat.lt_of_lt_of_le h2 hb.size, range_keepI h3 h2 hb, h4⟩
theorem InsAt.ok {w : World} {A : Option Addr} {l : List Ins} (h : InsAt w A l) : ∀ i ∈ l, i.ok := fun i hi => by
 obtain ⟨k, hk⟩ := List.getElem?_of_mem hi
 obtain ⟨ad, -, -, -, -, h4⟩ := h k i hk
 exact h4
theorem add_noneI {ad : Addr} {n : Nat} (h : ad.spot = none) : ad.add n = ⟨ad.block, ad.off + n, none⟩ := by
 obtain ⟨b, o, s⟩ := ad
 simp only at h
 subst h
 unfold Addr.add
 split
 ·rename_i e; subst e; rfl
 ·rfl
theorem ins_cells {w : World} {i : Ins} {ad : Addr} {n : Nat} (hs : ad.spot = none) (hr : w.rangeAt ad.block (ad.off + n) i.cells) :
  w.cell? (ad.add n) = some (.int .i64 i.op) ∧ w.cell? ⟨(ad.add n).block, (ad.add n).off + 1, none⟩ = some (.int .i64 i.a) ∧ w.cell? ⟨(ad.add n).block, (ad.add n).off + 2, none⟩ = some (.int .i64 i.b) ∧ w.cell? ⟨(ad.add n).block, (ad.add n).off + 3, none⟩ = some (.int .i64 i.imm) := by
 rw [add_noneI hs]
 exact ⟨hr 0 _ rfl, hr 1 _ rfl, hr 2 _ rfl, hr 3 _ rfl⟩
theorem row_ins : ∃ d, Tryd.prog.underlying 109 = some d ∧ d.isRow = true := ⟨_, Tryd.underlying109, rfl⟩
theorem size_ins : (Tryd.prog.info? 109).map (·.size) = some 4 := by kernel_rfl
theorem ld_insA {ops : Array Oper} {rest : List Oper} {o : Oper} {a : Act} {Q : Exit → Act → World → Prop} {w : World} {i : Ins} {ad : Addr} {n : Nat} (hs : ad.spot = none) (hr : w.rangeAt ad.block (ad.off + n) i.cells) (hgd : o.guard = none) (x : Operand) (ho : o.op = .load 109 x) (hx : a.eval x = .pointer (some (ad.add n))) (h : wpList Tryd.prog ops Q rest (a.put o.dst i.v) w) : wpList Tryd.prog ops Q (o :: rest) a w := by
 obtain ⟨d, h1, h2⟩ := row_ins
 rw [add_noneI hs] at hx
 exact wpList_load_mid hgd _ x ho ad.block (ad.off + n) hx i.cells d hr h1 h2 size_ins h
theorem ld_ins {ops : Array Oper} {rest : List Oper} {o : Oper} {a : Act} {Q : Exit → Act → World → Prop} {w : World} {i : Ins} {g : Nat} (hb : Box w g i.cells) (hgd : o.guard = none) (x : Operand) (ho : o.op = .load 109 x) (hx : a.eval x = .pointer (some ⟨g, 0, none⟩)) (h : wpList Tryd.prog ops Q rest (a.put o.dst i.v) w) : wpList Tryd.prog ops Q (o :: rest) a w := by
 obtain ⟨d, h1, h2⟩ := row_ins
 exact wp_ld hgd _ x ho g 0 hx hb i.cells (fun j v hj => by rw [Nat.zero_add]; exact hj) d h1 h2 size_ins h
theorem st_ins {ops : Array Oper} {rest : List Oper} {o : Oper} {a : Act} {Q : Exit → Act → World → Prop} {w : World} {i j : Ins} {g : Nat} (hb : Box w g i.cells) (hgd : o.guard = none) (x y : Operand) (ho : o.op = .store 109 x y) (hx : a.eval x = .pointer (some ⟨g, 0, none⟩)) (hy : a.eval y = j.v)
  (h : ∀ W1, Box W1 g j.cells → w.grownBy W1 (some g) → wpList Tryd.prog ops Q rest (a.put o.dst undef) W1) : wpList Tryd.prog ops Q (o :: rest) a w :=
 wp_st hgd _ x y ho g 0 j.cells hx hy size_ins rfl hb (by show 0 + 4 ≤ 4; omega) rfl h
def Ins.zero : Ins := ⟨0, 0, 0, 0⟩
end Go.Proofs.YtdiflpbioohddaaDoor
end
section
namespace Go.Proofs.YtdiflpbioohddaaDoor
open Go.RowKit
def encE (l : List Ins) : Int := if 512 < l.length then 5 else if l.all Ins.formed then 0 else 21
def Ins.bytes (i : Ins) : List Int := [i.op % 256, i.a % 256, i.b % 256, 0, i.imm % 4294967296 % 256, i.imm % 4294967296 / 256 % 256, i.imm % 4294967296 / 65536 % 256, i.imm % 4294967296 / 16777216 % 256]
def encB (l : List Ins) : List Int := if encE l = 0 then l.flatMap Ins.bytes else []
theorem bytes_len : ∀ (l : List Ins), (l.flatMap Ins.bytes).length = 8 * l.length
 | [] => rfl
 | i :: l => by rw [List.flatMap_cons, List.length_append, bytes_len l]; show 8 + _ = _; simp; omega
theorem info_byte : (Tryd.prog.info? 5).map (fun i => (i.zero, i.size, i.bytes)) = some (some (.int .u8 0), 1, 1) := by kernel_rfl
def OwnBy (base : Nat) (w : World) (v : Value) (l : List Int) : Prop := w.ownsRow base 5 1 v l.length (l.map (Value.int .u8))
theorem OwnBy.grow {base : Nat} {w w' : World} {v : Value} {l : List Int} (h : OwnBy base w v l) (hb : Below w.heap.size w w') : OwnBy base w' v l := own_grow h hb
theorem mk_byte0 {ops : Array Oper} {rest : List Oper} {o : Oper} {a : Act} {Q : Exit → Act → World → Prop} {w : World} (hg : o.guard = none) (s c : Operand) (hop : o.op = Op.makeSlice 145 s c)
  (base n : Nat) {N : Int} (hs : a.eval s = .int .i64 0) (hc : a.eval c = .int .i64 N) (hN : N = (n : Int)) (hn : n ≤ 100000000) (hb : base ≤ w.heap.size)
  (h : ∀ w', OwnBy base w' (.slice (some ⟨w.heap.size, 0, none⟩) 0 n) [] → Below w.heap.size w w' → wpList Tryd.prog ops Q rest (a.put o.dst (.slice (some ⟨w.heap.size, 0, none⟩) 0 n)) w') :
  wpList Tryd.prog ops Q (o :: rest) a w := by
 subst hN
 obtain ⟨i0, hi, hz0, hz1, hz2⟩ := info_parts info_byte
 refine wpList_make_own w hg s c 145 hop base 5 i0 (.int .u8 0) 1 Tryd.underlying145 hi hz0 hz1 .i64 .i64 n n hs hc rfl (by rw [hz2]; omega) (by unfold maxLen; omega) hb fun w' h1 h2 => h w' h1 ((Below.refl _ _).grown h2 (Nat.le_refl _) (by intro k hk; cases hk))
theorem app_bytes {ops : Array Oper} {rest : List Oper} {o : Oper} {a : Act} {Q : Exit → Act → World → Prop} (w : World) (hg : o.guard = none) (s x : Operand) (ho : o.op = .call { callee := .builtin .append, args := #[s, x], argTypes := #[145, 145] })
  (base : Nat) {v : Value} {l m : List Int} {q n c : Nat} (hs : a.eval s = v) (hx : a.eval x = .slice (some ⟨q, 0, none⟩) n c) (hown : OwnBy base w v l) (hm : m.length = n) (hb : Box w q (m.map (Value.int .u8))) (hn : l.length + n ≤ 100000000) (hbase : base ≤ w.heap.size)
  (h : ∀ v' w', OwnBy base w' v' (l ++ m) → w.grownBy w' v.ownBlock → wpList Tryd.prog ops Q rest (a.put o.dst v') w') : wpList Tryd.prog ops Q (o :: rest) a w := by
 subst hm
 refine app_row w hg s x 145 5 (.int .u8 0) 1 1 ho Tryd.underlying145 info_byte rfl (by decide) (by decide) base hs hx hown (ys := m.map (Value.int .u8)) (by simp) (fun j u hj => ⟨_, rfl, ?_⟩) (fun u hu => by obtain ⟨x, _, rfl⟩ := List.mem_map.1 hu; rfl) hn hbase fun v' w' h1 h2 h3 => h v' w' ?_ h2
 ·rw [add_cellsB]; exact (hb.2.1 j).trans hj
 ·show w'.ownsRow _ _ _ _ _ _
  rw [List.map_append, List.length_append]
  exact h1
set_option maxRecDepth 100000 in
set_option maxHeartbeats 4000000 in
theorem pr_Encode (A : Option Addr) (n c : Nat) (l : List Ins) (w : World) (hf : FormsAt w) (h : InsAt w A l) (hn : l.length = n) (h9 : n ≤ 9223372036854775807) : Calls Tryd.prog 84 #[.slice A n c] w fun e w' => (∃ v, e = .returned (.tuple #[v, .int .i64 (encE l)]) ∧ OwnBy w.heap.size w' v (encB l)) ∧ Below w.heap.size w w' := by
 have HI := Lib.hid h
 have HN := Lib.hid hn
 have HF := Lib.hid hf
 clear h hn hf
 by_cases h0 : (512 : Int) < (n : Int)
 ·have e1 : encE l = 5 := by unfold encE; rw [if_pos (by rw [HN.out]; omega)]
  have e2 : encB l = [] := by unfold encB; rw [e1]; rfl
  rw [e1, e2]
  clear e1 e2
  go_enter Tryd.func84, Tryd.ntmps84
  go_wp2_with fail
  go_ret2
  exact ⟨⟨_, rfl, World.ownsRow_nil _ _ _ _⟩, Below.refl _ _⟩
 ·have e1 : encE l = if l.all Ins.formed then 0 else 21 := by unfold encE; rw [if_neg (by rw [HN.out]; omega)]
  obtain ⟨E, hE⟩ : ∃ E, encE l = E := ⟨_, rfl⟩
  have HE := Lib.hid e1
  have HEE := Lib.hid hE
  rw [hE]
  clear e1 hE
  have hn512 : (n : Int) ≤ 512 := by omega
  have hw8 : IntKind.i64.wrap (8 * (n : Int)) = 8 * (n : Int) := IntWalk.i64_in _ (by omega)
  go_enter Tryd.func84, Tryd.ntmps84
  go_upto_region 4 with ((with_reducible show wpList _ _ _ (Oper.mk (some 14) _ _ _ _ _ :: _) _ _); refine mk_byte0 rfl _ _ rfl w.heap.size (8 * n) rfl rfl (by omega) (by omega) (Nat.le_refl _) ?_; intro w1 ho1 hb1)
  have HO1 := Lib.hid ho1
  have HB1 := Lib.hid hb1
  generalize (Value.slice (some ⟨w.heap.size, 0, none⟩) 0 (8 * n)) = v0 at HO1 ⊢
  clear ho1 hb1 hw8
  go_wp2_with fail
  go_loopw [4, 17] (fun v i wr => ∃ (k : Nat) (bs : List Int), k ≤ n ∧ i = .int .i64 k ∧ Hid ((l.take k).all Ins.formed = true) ∧ Hid (bs = (l.take k).flatMap Ins.bytes) ∧ Hid (OwnBy w.heap.size wr v bs) ∧ Hid (Below w.heap.size w wr)) (fun _ i _ => n - (intOf i).toNat)
  case atStart => exact ⟨0, [], Nat.zero_le _, rfl, Lib.hid rfl, Lib.hid rfl, HO1, HB1⟩
  case round =>
   obtain ⟨k, bs, hk, rfl, HT, HBS, HO, HB⟩ := hrel
   by_cases hlt : k < n
   ·obtain ⟨i, hi⟩ : ∃ i, l[k]? = some i := ⟨_, List.getElem?_eq_getElem (by rw [HN.out]; exact hlt)⟩
    obtain ⟨ad, rfl, hs, hb, hr, hok⟩ := (HI.out.grow HB.out) k i hi
    have HS := Lib.hid hs
    have HR := Lib.hid hr
    have q1 : (0 : Int) ≤ (k : Int) := by omega
    have q2 : (k : Int) < (n : Int) := by omega
    have HK := Lib.hid hi
    obtain ⟨x, hx⟩ : ∃ x, i.formed = x := ⟨_, rfl⟩
    have CF : Hid (∀ w1, Below wr.heap.size wr w1 → Calls Tryd.prog 110 #[i.v] w1 fun e w' => e = .returned (.bool x) ∧ Below w1.heap.size w1 w') := fun w1 hb => by
     have := pr_formed i w1 ((HF.out.grow HB.out).grow hb)
     rw [hx] at this; exact this
    have HX := Lib.hid hx
    clear hs hr hb hi hx
    go_upto_region 7 with (first
     | ((with_reducible show wpList _ _ _ (Oper.mk _ (.load _ _) _ _ _ _ :: _) _ _); refine ld_insA HS.out HR.out rfl _ rfl rfl ?_)
     | ((with_reducible show wpList _ _ _ (Oper.mk _ (.store _ _ _) _ _ _ _ :: _) _ _); refine st_ins (w := wr.alloc (.cells Ins.zero.cells.toArray 109)) (g := wr.heap.size) (i := Ins.zero) (j := i) (Box.new rfl) rfl _ _ rfl rfl rfl ?_; intro W2 b2 p2))
    have hb2 := put_facts ((Below.refl wr.heap.size wr).alloc (Nat.le_refl _) (.cells Ins.zero.cells.toArray 109)) (Nat.le_refl _) p2
    generalize wr.heap.size = g6 at b2 ⊢
    cases x with
    | false =>
     have hall : l.all Ins.formed = false := all_no HK.out HX.out
     go_wp2_with (first
      | ((with_reducible show wpList _ _ _ (Oper.mk _ (.load _ _) _ _ _ _ :: _) _ _); refine ld_ins b2 rfl _ rfl rfl ?_)
      | (go_at_call 110; (with_reducible refine (CF.out _ hb2).mono ?_); rintro e1 w3 ⟨rfl, hb3⟩))
     go_ret2
     have he : E = 21 := by rw [← HEE.out, HE.out, hall]; rfl
     subst he
     exact ⟨⟨_, rfl, by rw [show encB l = [] by unfold encB; rw [HE.out, hall]; rfl]; exact World.ownsRow_nil _ _ _ _⟩, below_then HB.out (below_then hb2 hb3)⟩
    | true =>
     go_upto_region 9 with (first
      | ((with_reducible show wpList _ _ _ (Oper.mk _ (.load _ _) _ _ _ _ :: _) _ _); refine ld_ins b2 rfl _ rfl rfl ?_)
      | (go_at_call 110; (with_reducible refine (CF.out _ hb2).mono ?_); rintro e1 w3 ⟨rfl, hb3⟩))
     obtain ⟨z0, z1, z2, z3⟩ := (Box.keep b2 hb3).c4
     have hb13 := below_then hb2 hb3
     go_upto_region 10 with fail
     obtain ⟨U, hU⟩ : ∃ U, i.imm % 4294967296 = U := ⟨_, rfl⟩
     have HMM : Hid (i.bytes = [i.op % 256, i.a % 256, i.b % 256, 0, U % 256, U / 256 % 256, U / 65536 % 256, U / 16777216 % 256]) := by show _ = _; unfold Ins.bytes; rw [hU]
     rw [hU]
     clear hU
     have HB3 := Lib.hid (below_then HB.out hb13)
     have HO3 := Lib.hid (HO.out.grow hb13)
     have HLN : Hid (bs.length + 8 ≤ 100000000) := by
      show _ ≤ _
      rw [HBS.out, bytes_len, List.length_take]; omega
     have HSZ : Hid (w.heap.size ≤ (w3.alloc (.cells ([i.op % 256, i.a % 256, i.b % 256, 0, U % 256, U / 256 % 256, U / 65536 % 256, U / 16777216 % 256].map (Value.int .u8)).toArray 5)).heap.size) := by
      have := HB3.out.size; show _ ≤ _; simp; omega
     have HAL : Hid (Below w3.heap.size w3 (w3.alloc (.cells ([i.op % 256, i.a % 256, i.b % 256, 0, U % 256, U / 256 % 256, U / 65536 % 256, U / 16777216 % 256].map (Value.int .u8)).toArray 5))) := (Below.refl _ _).alloc (Nat.le_refl _) _
     have HBX : Hid (Box (w3.alloc (.cells ([i.op % 256, i.a % 256, i.b % 256, 0, U % 256, U / 256 % 256, U / 65536 % 256, U / 16777216 % 256].map (Value.int .u8)).toArray 5)) w3.heap.size ([i.op % 256, i.a % 256, i.b % 256, 0, U % 256, U / 256 % 256, U / 65536 % 256, U / 16777216 % 256].map (Value.int .u8))) := Box.new rfl
     have HO4 := Lib.hid (HO3.out.grow HAL.out)
     have HBW : Hid (∀ b, u4.ownBlock = some b → w.heap.size ≤ b) := fun b hb => ((show World.ownsRow _ _ _ _ _ _ _ from HO.out).lt b hb).1
     go_upto_region 11 with ((with_reducible show wpList _ _ _ (Oper.mk (some 49) _ _ _ _ _ :: _) _ _); refine app_bytes _ rfl _ _ rfl w.heap.size (v := u4) (l := bs) (q := w3.heap.size) (n := 8) (c := 8) (m := [i.op % 256, i.a % 256, i.b % 256, 0, U % 256, U / 256 % 256, U / 65536 % 256, U / 16777216 % 256]) rfl rfl HO4.out rfl HBX.out HLN.out HSZ.out ?_; intro v5 w5 ho5 hg5)
     have wk : IntKind.i64.wrap ((k : Int) + 1) = ((k + 1 : Nat) : Int) := (IntWalk.i64_in _ (by omega)).trans (by omega)
     have HB5 := Lib.hid ((below_then HB3.out HAL.out).grown hg5 (below_then HB3.out HAL.out).size HBW.out)
     have HO5 : Hid (OwnBy w.heap.size w5 v5 (bs ++ i.bytes)) := by show OwnBy _ _ _ _; rw [HMM.out]; exact ho5
     clear ho5 hg5
     go_wp2_with fail
     go_roundw
     case rel => exact ⟨k + 1, bs ++ i.bytes, by omega, rfl, Lib.hid (by show _ = _; rw [take_succ_all HK.out, HT.out, HX.out]; rfl), Lib.hid (by show _ = _; rw [HBS.out, take_snoc' HK.out, List.flatMap_append]; simp), HO5, HB5⟩
     case measure => simp [intOf]; omega
   ·obtain rfl : k = n := by omega
    have hlo : ¬ (k : Int) < (k : Int) := by omega
    have ht : l.all Ins.formed = true := by have := HT.out; rwa [← HN.out, List.take_length] at this
    go_wp2_with fail
    go_ret2
    have he : E = 0 := by rw [← HEE.out, HE.out, ht]; rfl
    subst he
    exact ⟨⟨_, rfl, by rw [show encB l = l.flatMap Ins.bytes by unfold encB; rw [HE.out, ht]; rfl]; have := HO.out; rw [HBS.out, ← HN.out, List.take_length] at this; exact this⟩, HB.out⟩
end Go.Proofs.YtdiflpbioohddaaDoor
end
section
namespace Go.Proofs.YtdiflpbioohddaaDoor
open Go.RowKit
def sumOp (op : Int) : Bool := op == 2 || (op == 3 || op == 4)
def touchF (s : Bool) (v : Int) (r w : List Int) : Bool := !(s && v == 8) && (r.contains v || w.contains v)
def depF (i j : Ins) : Bool := (i.op == 0 || j.op == 0) || (i.wt.any (fun v => touchF (sumOp i.op && sumOp j.op) v j.rd j.wt) || j.wt.any (fun v => touchF (sumOp i.op && sumOp j.op) v i.rd i.wt))
theorem idx_contains (l : List Int) (v : Int) : decide (0 ≤ idxV l v) = l.contains v := by
 by_cases h : l.contains v = true
 ·rw [h]
  have hv : v ∈ l := by simpa using h
  unfold idxV
  cases e : l.findIdx? (fun x => x == v) with
  | none => exact absurd (List.findIdx?_eq_none_iff.1 e v hv) (by simp)
  | some b => simp
 ·have h : l.contains v = false := by simpa using h
  rw [h, idx_none (fun j hj hc => by
   have := List.mem_of_getElem? hc
   rw [show l.contains v = true by simpa using this] at h; cases h)]
  rfl
theorem sl_Contains (A : Option Addr) (l : List Int) (c n : Nat) (v : Int) (w : World) (hn : l.length = n) (hl : n ≤ 9223372036854775807) (h : Ints w A l) :
  Calls Tryd.prog 116 #[.slice A n c, .int .i64 v] w fun e w' => e = .returned (.bool (l.contains v)) ∧ w = w' := by
 have CI := Lib.hid (sl_Index A l c n v w hn hl h)
 rw [← idx_contains]
 clear h
 go_enter Tryd.func116, Tryd.ntmps116
 go_wp2_with (go_at_call 66; (with_reducible refine CI.out.mono ?_); rintro e1 w1 ⟨rfl, rfl⟩)
 go_ret
 exact ⟨rfl, rfl⟩
theorem sc_product (op : Int) (w : World) : Calls Tryd.prog 114 #[.int .i64 op] w fun e w' => e = .returned (.bool (sumOp op)) ∧ w = w' := by
 by_cases h2 : op = 2
 ·subst h2
  go_enter Tryd.func114, Tryd.ntmps114
  go_wp2_with fail
  go_ret
  exact ⟨rfl, rfl⟩
 ·have e2 : (op == 2) = false := by simpa using h2
  by_cases h3 : op = 3
  ·subst h3
   go_enter Tryd.func114, Tryd.ntmps114
   go_wp2_with fail
   go_ret
   exact ⟨rfl, rfl⟩
  ·have e3 : (op == 3) = false := by simpa using h3
   unfold sumOp
   rw [e2, e3, Bool.false_or, Bool.false_or]
   go_enter Tryd.func114, Tryd.ntmps114
   go_wp2_with fail
   go_ret
   exact ⟨rfl, rfl⟩
def delayF (op : Int) : Int := if op = 6 then 1 else if op = 5 then 2 else 0
theorem sc_delay (op : Int) (w : World) : Calls Tryd.prog 83 #[.int .i64 op] w fun e w' => e = .returned (.int .i64 (delayF op)) ∧ w = w' := by
 by_cases h6 : op = 6
 ·subst h6
  go_enter Tryd.func83, Tryd.ntmps83
  go_wp2_with fail
  go_ret
  exact ⟨rfl, rfl⟩
 ·have e6 : (op == 6) = false := by simpa using h6
  by_cases h5 : op = 5
  ·subst h5
   go_enter Tryd.func83, Tryd.ntmps83
   go_wp2_with fail
   go_ret
   exact ⟨rfl, rfl⟩
  ·have e5 : (op == 5) = false := by simpa using h5
   have e : delayF op = 0 := by unfold delayF; rw [if_neg h6, if_neg h5]
   rw [e]
   go_enter Tryd.func83, Tryd.ntmps83
   go_wp2_with fail
   go_ret
   exact ⟨rfl, rfl⟩
def fineF (l : List Ins) : Bool := inB l.length 1 512 && l.all Ins.formed
end Go.Proofs.YtdiflpbioohddaaDoor
end
