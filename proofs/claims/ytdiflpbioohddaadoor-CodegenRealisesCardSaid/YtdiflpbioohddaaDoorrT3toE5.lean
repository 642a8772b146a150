/- Several texts in one: T3 T4 E3 E5. -/
import Derived.Test.YtdiflpbioohddaaDoorrE1toI0
import Derived.Test.YtdiflpbioohddaaDoorrJ
import Derived.Test.YtdiflpbioohddaaDoorrG9toVc
import Derived.Test.YtdiflpbioohddaaDoorrE2
set_option linter.unusedVariables false
set_option linter.unusedSimpArgs false
section
namespace Go.Proofs.YtdiflpbioohddaaDoor
open Go.RowKit
theorem fits_cons {d0 d1 d2 d3 x : Int} {s : List Int} (h1 : fitsW d0 d1 d2 d3 x = true) (h2 : ∀ v ∈ s, fitsW d0 d1 d2 d3 v = true) : ∀ v ∈ x :: s, fitsW d0 d1 d2 d3 v = true := fun v hv => by
  rcases List.mem_cons.1 hv with rfl | h
  · exact h1
  · exact h2 v h
theorem sumT_succ {ts : List (Int × Int)} {vs : List Int} {i : Nat} {t : Int × Int} (h : ts[i]? = some t) : sumT ts vs (i + 1) = sumT ts vs i + t.2 * atF vs t.1 := by
  show sumT ts vs i + _ = _
  rw [h]
theorem sum_step {ts : List (Int × Int)} {vs : List Int} {i : Nat} {f c y : Int} (ht : ∀ t ∈ ts, -8388608 ≤ t.2 ∧ t.2 ≤ 8388608) (hv : ∀ v ∈ vs, -8388608 ≤ v ∧ v ≤ 8388608) (h64 : ts.length ≤ 64) (h : ts[i]? = some (f, c)) (hy : atF vs f = y) :
    sumT ts vs (i + 1) = sumT ts vs i + c * y ∧ IntKind.i64.wrap (c * y) = c * y ∧ IntKind.i64.wrap (sumT ts vs i + c * y) = sumT ts vs i + c * y := by
  have h1 := sumT_succ (vs := vs) h
  simp only at h1
  rw [hy] at h1
  have hi := (List.getElem?_eq_some_iff.1 h).1
  have b1 := prod_46 (ht _ (List.mem_of_getElem? h)) (atF_23 hv f)
  rw [hy] at b1
  simp only at b1
  have b2 := sumT_bound ht hv (i + 1)
  rw [h1] at b2
  exact ⟨h1, IntWalk.i64_in _ (by omega), IntWalk.i64_in _ (by omega)⟩
theorem sum_i64 {ts : List (Int × Int)} {vs : List Int} (ht : ∀ t ∈ ts, -8388608 ≤ t.2 ∧ t.2 ≤ 8388608) (hv : ∀ v ∈ vs, -8388608 ≤ v ∧ v ≤ 8388608) (h64 : ts.length ≤ 64) : I64 (sumT ts vs ts.length) := by
  have := sumT_bound ht hv ts.length
  constructor <;> omega
def RetVals (w : World) (l : List Int) (o : Bool) (e : Ending) (w' : World) : Prop := ∃ v, e = .returned (.tuple #[v, .bool o]) ∧ Own w.heap.size w' v l ∧ Below w.heap.size w w'
set_option maxHeartbeats 1000000 in
theorem nw_wrong (d0 d1 d2 d3 c0 c1 c2 c3 st out : Int) (NA XA SA IA : Option Addr) (nc xc sn sc im ic : Nat) (ns : List (List (Int × Int))) (nx s is : List Int) (w : World) (hN : NodesAt w NA ns) (hX : Ints w XA nx) (hS : Ints w SA s) (hI : Ints w IA is)
    (hsn : s.length = sn) (him : is.length = im) (hst : (sn : Int) = st) (hs9 : sn ≤ 1000000) (hi9 : im ≤ 1000000) (hfs : ∀ v ∈ s, fitsW d0 d1 d2 d3 v = true) (hfi : ∀ v ∈ is, fitsW d0 d1 d2 d3 v = true) :
    Calls Tryd.prog 52 #[netV d0 d1 d2 d3 c0 c1 c2 c3 st NA ns.length nc XA nx.length xc out, .slice SA sn sc, .slice IA im ic] w fun e w' => e = .returned (.int .i64 0) ∧ Below w.heap.size w w' := by
  subst hst
  obtain ⟨xn, hxn⟩ : ∃ n, nx.length = n := ⟨_, rfl⟩
  obtain ⟨nn, hnn⟩ : ∃ n, ns.length = n := ⟨_, rfl⟩
  obtain ⟨P, HP0, PN0⟩ := netQ_mk w d0 d1 d2 d3 c0 c1 c2 c3 (sn : Int) NA ns ns.length nc XA nx nx.length xc out hN hX
  rw [hxn, hnn] at HP0 PN0
  unfold netV
  rw [hnn, hxn]
  have HP := Lib.hid HP0
  have PN := Lib.hid PN0
  have HFS := Lib.hid hfs
  have HFI := Lib.hid hfi
  have HS := Lib.hid hS
  have HI := Lib.hid hI
  have HSN := Lib.hid hsn
  have HIM := Lib.hid him
  have FT : Hid (∀ v w, fitsW d0 d1 d2 d3 v = true → Calls Tryd.prog 40 #[wordV d0 d1 d2 d3, .int .i64 v] w fun e w' => e = .returned (.bool true) ∧ Below w.heap.size w w') := fun v w h => by have := fx_Fits d0 d1 d2 d3 v w; rw [h] at this; exact this
  clear HP0 PN0 hnn hxn hN hX hS hI hfs hfi hsn him
  go_enter Tryd.func52, Tryd.ntmps52
  go_wp2_with fail
  go_loopw [18] (fun i wr => ∃ k : Nat, k ≤ sn ∧ i = .int .i64 k ∧ P wr) (fun i _ => sn - (intOf i).toNat)
  case atStart => exact ⟨0, Nat.zero_le _, rfl, HP.out⟩
  case round =>
    obtain ⟨k, hk, rfl, hp⟩ := hrel
    obtain ⟨z1, z2, z3, z4⟩ := PN.out.dat _ hp
    have hlw := PN.out.lt _ hp
    by_cases hlt : k < sn
    · obtain ⟨ad, y, rfl, hba, hy, hcy, y1, y2⟩ := (HS.out.grow (PN.out.old _ hp)).at_ (k := k) (by rw [HSN.out]; exact hlt)
      have hf := HFS.out y (List.mem_of_getElem? hy)
      have HF := Lib.hid hf
      have HPP := Lib.hid hp
      have x1 : (0 : Int) ≤ (k : Int) := by omega
      have x2 : (k : Int) < (sn : Int) := by omega
      clear hy hf hp
      go_wp2_with (first | (go_at_call 40; with_reducible refine (FT.out _ _ HF.out).mono ?_; rintro e w1 ⟨rfl, hb1⟩))
      go_roundw
      case rel => exact ⟨k + 1, by omega, by go_num, PN.out.go1 HPP.out hb1⟩
      case measure => simp [intOf]; omega
    · obtain rfl : k = sn := by omega
      have HPP := Lib.hid hp
      clear hp z1 z2 z3 z4
      go_wp2_with fail
      go_loopw [30] (fun i wr => ∃ k : Nat, k ≤ im ∧ i = .int .i64 k ∧ P wr) (fun i _ => im - (intOf i).toNat)
      case atStart => exact ⟨0, Nat.zero_le _, rfl, HPP.out⟩
      case round =>
        obtain ⟨j, hj, rfl, hp⟩ := hrel
        obtain ⟨z1, z2, z3, z4⟩ := PN.out.dat _ hp
        have hlw := PN.out.lt _ hp
        by_cases hlt2 : j < im
        · obtain ⟨ad, y, rfl, hba, hy, hcy, y1, y2⟩ := (HI.out.grow (PN.out.old _ hp)).at_ (k := j) (by rw [HIM.out]; exact hlt2)
          have hf := HFI.out y (List.mem_of_getElem? hy)
          have HF := Lib.hid hf
          have HPP := Lib.hid hp
          have x1 : (0 : Int) ≤ (j : Int) := by omega
          have x2 : (j : Int) < (im : Int) := by omega
          clear hy hf hp
          go_wp2_with (first | (go_at_call 40; with_reducible refine (FT.out _ _ HF.out).mono ?_; rintro e w1 ⟨rfl, hb1⟩))
          go_roundw
          case rel => exact ⟨j + 1, by omega, by go_num, PN.out.go1 HPP.out hb1⟩
          case measure => simp [intOf]; omega
        · obtain rfl : j = im := by omega
          have HPP := Lib.hid hp
          clear hp
          go_wp2_with fail
          go_ret
          exact ⟨rfl, PN.out.old _ HPP.out⟩
set_option maxRecDepth 100000 in
set_option maxHeartbeats 2000000 in
theorem nw_compute (d0 d1 d2 d3 c0 c1 c2 c3 st out x : Int) (NA XA SA : Option Addr) (nc xc sn sc : Nat) (ns : List (List (Int × Int))) (nx s : List Int) (w : World) (hok : netB d0 d1 d2 d3 c0 c1 c2 c3 st ns nx out = true) (hN : NodesAt w NA ns) (hX : Ints w XA nx) (hS : Ints w SA s)
    (hsn : s.length = sn) (hst : (sn : Int) = st) (hfs : ∀ v ∈ s, fitsW d0 d1 d2 d3 v = true) (hfx : fitsW d0 d1 d2 d3 x = true) :
    Calls Tryd.prog 53 #[netV d0 d1 d2 d3 c0 c1 c2 c3 st NA ns.length nc XA nx.length xc out, .slice SA sn sc, .int .i64 x] w (RetVals w (valsF d0 d1 d2 d3 c1 ns (x :: s) ns.length) (overF d0 d1 d2 d3 c1 ns (x :: s) ns.length)) := by
  subst hst
  obtain ⟨p1, p2, p3, p4, -, p5, -, -⟩ := netB_parts hok
  obtain ⟨xn, hxn⟩ : ∃ n, nx.length = n := ⟨_, rfl⟩
  obtain ⟨nn, hnn⟩ : ∃ n, ns.length = n := ⟨_, rfl⟩
  obtain ⟨P, HP0, PN0⟩ := netQ_mk w d0 d1 d2 d3 c0 c1 c2 c3 (sn : Int) NA ns ns.length nc XA nx nx.length xc out hN hX
  rw [hxn, hnn] at HP0 PN0
  unfold netV
  rw [hnn, hxn]
  rw [hnn] at p4
  have hx23 := fits_23 hfx
  have HLEN : Hid (∀ k, k ≤ nn → (valsF d0 d1 d2 d3 c1 ns (x :: s) k).length = 1 + sn + k) := fun k hk => by rw [valsF_length _ _ _ _ _ _ _ k (by omega), List.length_cons, hsn]; omega
  have HB : Hid (∀ k, ∀ v ∈ valsF d0 d1 d2 d3 c1 ns (x :: s) k, -8388608 ≤ v ∧ v ≤ 8388608) := fun k v hv => fits_23 (valsF_fits p1 (fits_cons hfx hfs) k v hv)
  have HP := Lib.hid HP0
  have PN := Lib.hid PN0
  have HTS := Lib.hid p5
  have HS := Lib.hid hS
  have HSN := Lib.hid hsn
  have HNN := Lib.hid hnn
  clear HP0 PN0 hnn hxn hN hX hS hfs hfx hsn p5 p1 p2 hok
  have hs64 : sn ≤ 64 := by omega
  clear p3
  have HSZ : Hid (∀ o, (w.alloc o).heap.size = w.heap.size + 1) := Lib.hid (fun o => by simp)
  go_enter Tryd.func53, Tryd.ntmps53
  go_wp2_with (first
    | (at_make; refine mk_int0 rfl _ _ rfl (w.heap.size + 1) (1 + sn + nn) rfl rfl (by push_cast; rfl) (by omega) (by simp) ?_; intro w1 hown1 hb1; rw [show (w.alloc (.cells #[.int .i64 d0, .int .i64 d1, .int .i64 d2, .int .i64 d3, .int .i64 c0, .int .i64 c1, .int .i64 c2, .int .i64 c3, .int .i64 (sn : Int), .slice NA nn nc, .slice XA xn xc, .int .i64 out] 27)).heap.size = w.heap.size + 1 from HSZ.out _] at hown1; have hp1 := PN.out.go1 HP.out hb1; obtain ⟨z1, z2, z3, z4⟩ := PN.out.res _ hp1; have hs1 := PN.out.lt _ hp1)
    | (at_builtin; refine app_int w1 rfl _ _ rfl (w.heap.size + 1) hown1 rfl rfl (by simp) hs1 (y := x) ⟨by omega, by omega⟩ ?_; intro v2 w2 hown2 hb2; have hp2 := PN.out.go _ _ hp1 hb2; obtain ⟨z1, z2, z3, z4⟩ := PN.out.res _ hp2; have hs2 := PN.out.lt _ hp2; have hI2 := HS.out.grow (PN.out.old _ hp2))
    | (at_builtin; refine app_intsN w2 rfl _ _ rfl (w.heap.size + 1) (m := s) rfl rfl HSN.out hown2 hI2 (by simp; omega) hs2 ?_; intro v3 w3 hown3 hb3; have hp3 := PN.out.go _ _ hp2 hb3; obtain ⟨z1, z2, z3, z4⟩ := PN.out.res _ hp3))
  have HO3 : Hid (Own (w.heap.size + 1) w3 v3 (valsF d0 d1 d2 d3 c1 ns (x :: s) 0)) := hown3
  have HP3 := Lib.hid hp3
  clear hp3 hown3 hb3 z1 z2 z3 z4 hp2 hown2 hb2 hI2 hp1 hown1 hb1 hs1 hs2 hx23
  go_loopw [8, 9, 34] (fun v o i wr => ∃ k : Nat, k ≤ nn ∧ i = .int .i64 k ∧ o = .bool (overF d0 d1 d2 d3 c1 ns (x :: s) k) ∧ Hid (Own (w.heap.size + 1) wr v (valsF d0 d1 d2 d3 c1 ns (x :: s) k)) ∧ P wr) (fun _ _ i _ => nn - (intOf i).toNat)
  case atStart => exact ⟨0, Nat.zero_le _, rfl, rfl, HO3, HP3.out⟩
  case round =>
    obtain ⟨k, hk, rfl, rfl, HO, hp⟩ := hrel
    have hlw := PN.out.lt _ hp
    by_cases hlt : k < nn
    · obtain ⟨ts, hts⟩ : ∃ ts, ns[k]? = some ts := ⟨_, List.getElem?_eq_getElem (by rw [HNN.out]; exact hlt)⟩
      obtain ⟨ad, B, bc, rfl, hba, cn, hT⟩ := PN.out.nodes _ hp k ts hts
      obtain ⟨hl64, hterms⟩ := HTS.out k ts hts
      obtain ⟨vs, hvs⟩ : ∃ vs, valsF d0 d1 d2 d3 c1 ns (x :: s) k = vs := ⟨_, rfl⟩
      have hsucc := valsF_succ (d0 := d0) (d1 := d1) (d2 := d2) (d3 := d3) (c1 := c1) (x := x :: s) hts
      have hover := overF_succ (d0 := d0) (d1 := d1) (d2 := d2) (d3 := d3) (c1 := c1) (x := x :: s) hts
      have hvl := HLEN.out k (by omega)
      have hvb := HB.out k
      rw [hvs] at hsucc hover hvl hvb HO
      obtain ⟨ov, hov⟩ : ∃ ov, overF d0 d1 d2 d3 c1 ns (x :: s) k = ov := ⟨_, rfl⟩
      rw [hov] at hover ⊢
      obtain ⟨U, hU⟩ : ∃ U, nodeV d2 c1 vs ts = U := ⟨_, rfl⟩
      have hU2 : shiftF (sumT ts vs ts.length) c1 d2 = U := hU
      rw [hU] at hsucc hover
      have HSUCC := Lib.hid hsucc
      have HOVER := Lib.hid hover
      have HU2 := Lib.hid hU2
      have HVL := Lib.hid hvl
      have HVB := Lib.hid hvb
      have HTE := Lib.hid hterms
      have HSI := Lib.hid (sum_i64 (fun t ht => (hterms t ht).2) hvb hl64)
      have HPP := Lib.hid (PN.out.al hp (.cells #[.slice B ts.length bc] 36))
      have HTA := Lib.hid (hT.grow (Below.alloc (Below.refl wr.heap.size wr) (Nat.le_refl _) (.cells #[.slice B ts.length bc] 36)))
      have HOA := Lib.hid (HO.out.grow (Below.alloc (Below.refl wr.heap.size wr) (Nat.le_refl _) (.cells #[.slice B ts.length bc] 36)))
      have y1 : (0 : Int) ≤ (k : Int) := by omega
      have y2 : (k : Int) < (nn : Int) := by omega
      clear hp hT hts hsucc hover hvl hvb hterms hvs hov hU hU2 HO
      obtain ⟨VA, vcap, e8, hcap, -⟩ := HOA.out.form
      subst e8
      obtain ⟨vn, hvn⟩ : ∃ vn, vs.length = vn := ⟨_, rfl⟩
      rw [hvn] at HOA hcap ⊢
      have HVK : Hid (vn = 1 + sn + k) := Lib.hid (by rw [← hvn]; exact HVL.out)
      have HVN := Lib.hid hvn
      clear hvn hcap
      go_wp2_with fail
      clear cn
      obtain ⟨wo, rfl⟩ : ∃ wo : World, wo = wr := ⟨_, rfl⟩
      go_loopw [12, 41] (fun u i wr => ∃ j : Nat, j ≤ ts.length ∧ i = .int .i64 j ∧ u = .int .i64 (sumT ts vs j) ∧ P wr ∧ TermsAt wr B ts ∧ Hid (Own (w.heap.size + 1) wr (.slice VA vn vcap) vs)) (fun _ i _ => ts.length - (intOf i).toNat)
      case atStart => exact ⟨0, Nat.zero_le _, rfl, rfl, HPP.out, HTA.out, HOA⟩
      case round =>
        obtain ⟨j, hj, rfl, rfl, hp, hT, HO⟩ := hrel
        have hlw := PN.out.lt _ hp
        obtain ⟨z1, z2, z3, z4⟩ := PN.out.dat _ hp
        obtain ⟨t1, t2, t3, t4⟩ := PN.out.coe _ hp
        by_cases hltj : j < ts.length
        · obtain ⟨tm, htm⟩ : ∃ tm, ts[j]? = some tm := ⟨_, List.getElem?_eq_getElem hltj⟩
          obtain ⟨a2, rfl, hb2, ct0, ct1, i1, i2⟩ := hT j tm htm
          obtain ⟨⟨f1, f2⟩, f3, f4⟩ := HTE.out tm (List.mem_of_getElem? htm)
          obtain ⟨f, cv⟩ := tm
          simp only at ct0 ct1 i1 i2 f1 f2 f3 f4
          obtain ⟨q, rfl⟩ : ∃ q : Nat, f = (q : Int) := ⟨f.toNat, by omega⟩
          obtain ⟨A', c', eA, -, hIV⟩ := HO.out.form
          rw [HVN.out] at eA
          injection eA with eA1 eA2 eA3
          subst eA1
          obtain ⟨av, z, rfl, hbv, hz, hcz, -, -⟩ := hIV.at_ (k := q) (by rw [HVN.out, HVK.out]; omega)
          obtain ⟨s1, s2, s3⟩ := sum_step (fun t ht => (HTE.out t ht).2) HVB.out hl64 htm (atF_nat hz)
          have HS1 := Lib.hid s1
          have x2 : (0 : Int) ≤ (j : Int) := by omega
          have x3 : (j : Int) < (ts.length : Int) := by omega
          have hcz2 : (wr.alloc (.cells #[.int .i64 (q : Int), .int .i64 cv] 80)).cell? (av.add q) = some (.int .i64 z) := ((Below.alloc (Below.refl wr.heap.size wr) (Nat.le_refl _) _).cell (by rw [block_add]; exact hbv)).trans hcz
          have x4 : (q : Int) < (vn : Int) := by rw [HVK.out]; omega
          have HBA : Hid (∀ n, Below wr.heap.size wr ((wr.alloc (.cells #[.int .i64 (q : Int), .int .i64 cv] 80)).drewN n)) := Lib.hid (fun n => below_drewN ((Below.refl wr.heap.size wr).alloc (Nat.le_refl _) _) n)
          have HP2 := Lib.hid hp
          have HT2 := Lib.hid hT
          clear htm hT hp i1 i2 s1 hz hIV z1 z2 z3 z4 t1 t2 t3 t4 f1 f2 f3 f4 eA2 eA3
          go_wp2_with fail
          go_quiet (fail)
          go_wp2_with fail
          go_roundw
          case rel => exact ⟨j + 1, by omega, by go_num, by rw [HS1.out], PN.out.go1 HP2.out (HBA.out _), HT2.out.grow (HBA.out _), HO.out.grow (HBA.out _)⟩
          case measure => simp [intOf]; omega
        · obtain rfl : j = ts.length := by omega
          have hsi := HSI.out
          have HPP := Lib.hid hp
          clear hp hT z4 t4
          have FSh : Hid (∀ w, Calls Tryd.prog 78 #[.int .i64 (sumT ts vs ts.length), .int .i64 c1, .int .i64 d2] w fun e w' => e = .returned (.int .i64 U) ∧ Below w.heap.size w w') := Lib.hid (fun w => by have := fx_Shift (sumT ts vs ts.length) c1 d2 w hsi; rw [HU2.out] at this; exact this)
          obtain ⟨R, hR⟩ : ∃ R, reduceW d0 d1 d2 d3 U = R := ⟨_, rfl⟩
          have hR23 : -8388608 ≤ R ∧ R ≤ 8388608 := HB.out (k + 1) R (by rw [HSUCC.out, ← hR]; simp)
          have FR : Hid (∀ w, Calls Tryd.prog 79 #[wordV d0 d1 d2 d3, .int .i64 U] w fun e w' => e = .returned (.int .i64 R) ∧ Below w.heap.size w w') := Lib.hid (fun w => by have := fx_Reduce d0 d1 d2 d3 U w; rw [hR] at this; exact this)
          have HR := Lib.hid hR
          obtain ⟨fu, hfu⟩ : ∃ fu, fitsW d0 d1 d2 d3 U = fu := ⟨_, rfl⟩
          have FF : Hid (∀ w, Calls Tryd.prog 40 #[wordV d0 d1 d2 d3, .int .i64 U] w fun e w' => e = .returned (.bool fu) ∧ Below w.heap.size w w') := Lib.hid (fun w => by have := fx_Fits d0 d1 d2 d3 U w; rw [hfu] at this; exact this)
          have HFU := Lib.hid hfu
          have hvl : vs.length < 100000000 := by rw [HVL.out]; omega
          clear hR hfu
          rcases ov with _ | _
          · go_wp2_with (first
              | (go_at_call 78; with_reducible refine (FSh.out _).mono ?_; rintro e w4 ⟨rfl, hb4⟩; have hp4 := PN.out.go1 HPP.out hb4; obtain ⟨z1, z2, z3, z4⟩ := PN.out.dat _ hp4; have ho4 := HO.out.grow hb4)
              | (go_at_call 40; with_reducible refine (FF.out _).mono ?_; rintro e w5 ⟨rfl, hb5⟩; have hp5 := PN.out.go1 hp4 hb5; obtain ⟨z1, z2, z3, z4⟩ := PN.out.dat _ hp5; have ho5 := ho4.grow hb5)
              | (go_at_call 79; with_reducible refine (FR.out _).mono ?_; rintro e w6 ⟨rfl, hb6⟩; have hp6 := PN.out.go1 hp5 hb6; have ho6 := ho5.grow hb6; have hs6 := PN.out.lt _ hp6)
              | (at_builtin; refine app_int w6 rfl _ _ rfl (w.heap.size + 1) ho6 rfl rfl hvl hs6 (y := R) ⟨by omega, by omega⟩ ?_; intro v7 w7 ho7 hb7; have hp7 := PN.out.go _ _ hp6 hb7))
            go_roundw
            case rel => exact ⟨k + 1, by omega, by go_num, by rw [HOVER.out, HFU.out]; rfl, by rw [HSUCC.out, HR.out]; exact ho7, hp7⟩
            case measure => simp [intOf]; omega
          · go_wp2_with (first
              | (go_at_call 78; with_reducible refine (FSh.out _).mono ?_; rintro e w4 ⟨rfl, hb4⟩; have hp4 := PN.out.go1 HPP.out hb4; obtain ⟨z1, z2, z3, z4⟩ := PN.out.dat _ hp4; have ho4 := HO.out.grow hb4)
              | (go_at_call 79; with_reducible refine (FR.out _).mono ?_; rintro e w6 ⟨rfl, hb6⟩; have hp6 := PN.out.go1 hp4 hb6; have ho6 := ho4.grow hb6; have hs6 := PN.out.lt _ hp6)
              | (at_builtin; refine app_int w6 rfl _ _ rfl (w.heap.size + 1) ho6 rfl rfl hvl hs6 (y := R) ⟨by omega, by omega⟩ ?_; intro v7 w7 ho7 hb7; have hp7 := PN.out.go _ _ hp6 hb7))
            go_roundw
            case rel => exact ⟨k + 1, by omega, by go_num, by rw [HOVER.out]; rfl, by rw [HSUCC.out, HR.out]; exact ho7, hp7⟩
            case measure => simp [intOf]; omega
    · have hkk : k = nn := by omega
      subst hkk
      have HPP := Lib.hid hp
      clear hp
      go_wp2_with fail
      go_ret2
      exact ⟨_, rfl, HO.out.base (Nat.le_succ _), PN.out.old _ HPP.out⟩
end Go.Proofs.YtdiflpbioohddaaDoor
end
section
namespace Go.Proofs.YtdiflpbioohddaaDoor
open Go.RowKit
theorem results_tmp4 {fn : Func} {t u v x : Tmp} (h : fn.results = #[.tmp t, .tmp u, .tmp v, .tmp x]) (tmps : Array Value) (P : Program) (w : World) :
    (results fn tmps).run P w = .ok (.tuple #[tmps.getD t undef, tmps.getD u undef, tmps.getD v undef, tmps.getD x undef]) w := by
  simp [results, h]
theorem vals_at {d0 d1 d2 d3 c0 c1 c2 c3 st out x : Int} {ns : List (List (Int × Int))} {nx s : List Int} (h : netB d0 d1 d2 d3 c0 c1 c2 c3 st ns nx out = true) (hs : (s.length : Int) = st) :
    (valsF d0 d1 d2 d3 c1 ns (x :: s) ns.length).length = 1 + s.length + ns.length := by
  rw [valsF_length _ _ _ _ _ _ _ _ (Nat.le_refl _), List.length_cons]; omega
end Go.Proofs.YtdiflpbioohddaaDoor
end
section
namespace Go.Proofs.YtdiflpbioohddaaDoor
open Go.RowKit
def opStr : Nat → ByteArray
  | 0 => ⟨#[104, 97, 108, 116]⟩
  | 1 => ⟨#[99, 108, 101, 97, 114]⟩
  | 2 => ⟨#[109, 97, 99]⟩
  | 3 => ⟨#[109, 97, 99, 109]⟩
  | 4 => ⟨#[109, 97, 99, 99]⟩
  | 5 => ⟨#[114, 111, 117, 110, 100]⟩
  | 6 => ⟨#[108, 111, 97, 100]⟩
  | 7 => ⟨#[115, 116, 111, 114, 101]⟩
  | 8 => ⟨#[112, 117, 115, 104]⟩
  | 9 => ⟨#[105, 110]⟩
  | 10 => ⟨#[111, 117, 116]⟩
  | _ => ⟨#[109, 111, 118, 101]⟩
def formR (op : Int) : Value :=
  if 0 ≤ op ∧ op < 12 then .tuple #[.string (opStr op.toNat), .int .i64 (kA op.toNat), .int .i64 (kB op.toNat), .bool (kC op.toNat == 5)] else .tuple #[.string ⟨#[]⟩, .int .i64 0, .int .i64 0, .bool false]
set_option maxRecDepth 100000 in
theorem r38_form (op : Int) (w : World) : Calls Tryd.prog 111 #[.int .i64 op] w fun e w' => e = .returned (formR op) ∧ w = w' := by
  by_cases h : 0 ≤ op ∧ op < 12
  · unfold formR
    rw [if_pos h]
    obtain ⟨h0, h1⟩ := h
    obtain rfl | rfl | rfl | rfl | rfl | rfl | rfl | rfl | rfl | rfl | rfl | rfl : op = 0 ∨ op = 1 ∨ op = 2 ∨ op = 3 ∨ op = 4 ∨ op = 5 ∨ op = 6 ∨ op = 7 ∨ op = 8 ∨ op = 9 ∨ op = 10 ∨ op = 11 := by omega
    all_goals
      clear h0 h1
      go_enter Tryd.func111, Tryd.ntmps111
      go_wp2_with fail
      refine bodyPost_ret (results_tmp4 rfl _ _ _) rfl ?_
      exact ⟨rfl, rfl⟩
  · unfold formR
    rw [if_neg h]
    have n0 : (op == 0) = false := by simp; omega
    have n1 : (op == 1) = false := by simp; omega
    have n2 : (op == 2) = false := by simp; omega
    have n3 : (op == 3) = false := by simp; omega
    have n4 : (op == 4) = false := by simp; omega
    have n5 : (op == 5) = false := by simp; omega
    have n6 : (op == 6) = false := by simp; omega
    have n7 : (op == 7) = false := by simp; omega
    have n8 : (op == 8) = false := by simp; omega
    have n9 : (op == 9) = false := by simp; omega
    have n10 : (op == 10) = false := by simp; omega
    have n11 : (op == 11) = false := by simp; omega
    clear h
    go_enter Tryd.func111, Tryd.ntmps111
    go_wp2_with fail
    refine bodyPost_ret (results_tmp4 rfl _ _ _) rfl ?_
    exact ⟨rfl, rfl⟩
theorem r38_field (k v : Int) (w : World) (hk : 0 ≤ k ∧ k ≤ 4) (hv : I64 v) : Calls Tryd.prog 112 #[.int .i64 k, .int .i64 v] w fun e w' => e = .returned (.bool (fitsK k v)) ∧ w = w' := by
  have CI : Hid (∀ hi w1, Calls Tryd.prog 32 #[.int .i64 v, .int .i64 0, .int .i64 hi] w1 fun e w' => e = .returned (.bool (inB v 0 hi)) ∧ w1 = w') := fun hi w1 => rf_In v 0 hi w1
  have e7 : inB v 0 7 = fitsK 1 v := Bool.eq_iff_iff.2 (by simp [inB, fitsK]; omega)
  have e3 : fitsK 3 v = fitsK 1 v := rfl
  have e9 : inB v 0 127 = fitsK 2 v := Bool.eq_iff_iff.2 (by simp [inB, fitsK]; omega)
  have e4 : fitsK 4 v = fitsK 2 v := rfl
  have e0 : fitsK 0 v = (v == 0) := rfl
  obtain rfl | rfl | rfl | rfl | rfl : k = 0 ∨ k = 1 ∨ k = 2 ∨ k = 3 ∨ k = 4 := by omega
  all_goals
    try rw [e3]
    try rw [e4]
    try rw [e0]
    try rw [← e7]
    try rw [← e9]
    clear hk e7 e3 e9 e4 e0 hv
    go_enter Tryd.func112, Tryd.ntmps112
    go_wp2_with (go_at_call 32; (with_reducible refine (CI.out _ _).mono ?_); rintro e1 w1 ⟨rfl, rfl⟩)
    go_ret
    exact ⟨rfl, rfl⟩
set_option maxRecDepth 100000 in
set_option maxHeartbeats 4000000 in
theorem r38_Formed (i : Ins) (w : World) (hi : i.ok) : Calls Tryd.prog 104 #[i.v] w fun e w' => e = .returned (.bool i.formed) ∧ Below w.heap.size w w' := by
  obtain ⟨op, a, b, imm⟩ := i
  obtain ⟨i0, i1, i2, i3⟩ := hi
  simp only at i0 i1 i2 i3
  have fin : ∀ (c : Bool), Ins.formed ⟨op, a, b, imm⟩ = c → Calls Tryd.prog 104 #[.agg #[.int .i64 op, .int .i64 a, .int .i64 b, .int .i64 imm]] w (fun e w' => e = .returned (.bool c) ∧ Below w.heap.size w w') → Calls Tryd.prog 104 #[Ins.v ⟨op, a, b, imm⟩] w fun e w' => e = .returned (.bool (Ins.formed ⟨op, a, b, imm⟩)) ∧ Below w.heap.size w w' := fun c h1 h2 => by rw [h1]; exact h2
  by_cases h : 0 ≤ op ∧ op < 12
  · obtain ⟨x, hx⟩ : ∃ x, fitsK (kA op.toNat) a = x := ⟨_, rfl⟩
    obtain ⟨y, hy⟩ : ∃ x, fitsK (kB op.toNat) b = x := ⟨_, rfl⟩
    obtain ⟨z, hz⟩ : ∃ x, fitsK (kC op.toNat) imm = x := ⟨_, rfl⟩
    refine fin (x && (y && z)) (by unfold Ins.formed; rw [hx, hy, hz, decide_eq_true h, Bool.true_and, Bool.and_assoc]) ?_
    have C0 : Hid (∀ w1, Calls Tryd.prog 111 #[.int .i64 op] w1 fun e w' => e = .returned (.tuple #[.string (opStr op.toNat), .int .i64 (kA op.toNat), .int .i64 (kB op.toNat), .bool (kC op.toNat == 5)]) ∧ w1 = w') := fun w1 => by have := r38_form op w1; unfold formR at this; rw [if_pos h] at this; exact this
    have C1 : Hid (∀ w1, Calls Tryd.prog 112 #[.int .i64 (kA op.toNat), .int .i64 a] w1 fun e w' => e = .returned (.bool x) ∧ w1 = w') := fun w1 => by have := r38_field (kA op.toNat) a w1 (kA4 _) i1; rw [hx] at this; exact this
    have C2 : Hid (∀ w1, Calls Tryd.prog 112 #[.int .i64 (kB op.toNat), .int .i64 b] w1 fun e w' => e = .returned (.bool y) ∧ w1 = w') := fun w1 => by have := r38_field (kB op.toNat) b w1 (kB4 _) i2; rw [hy] at this; exact this
    have CI : Hid (∀ w1, Calls Tryd.prog 32 #[.int .i64 imm, .int .i64 (-8388608), .int .i64 8388608] w1 fun e w' => e = .returned (.bool (fitsK 5 imm)) ∧ w1 = w') := fun w1 => by
      have e5 : inB imm (-8388608) 8388608 = fitsK 5 imm := Bool.eq_iff_iff.2 (by simp [inB, fitsK])
      have := rf_In imm (-8388608) 8388608 w1; rw [e5] at this; exact this
    have hs1 : (opStr op.toNat).toList.isEmpty = false := by unfold opStr; split <;> decide +kernel
    have hs2 : ¬ (opStr op.toNat).toList = [] := fun e => by rw [e] at hs1; exact absurd hs1 (by decide)
    have hc : kC op.toNat = 5 ∨ kC op.toNat = 0 := by unfold kC; split <;> simp
    generalize opStr op.toNat = sw at hs1 hs2 C0
    generalize kA op.toNat = ka at C0 C1
    generalize kB op.toNat = kb at C0 C2
    generalize kC op.toNat = kc at hz hc C0
    clear hx hy fin h
    cases x with
    | false =>
      clear hz hc
      go_enter Tryd.func104, Tryd.ntmps104
      go_upto_region 1 with fail
      obtain ⟨bx0, hb0⟩ := entryI w ⟨op, a, b, imm⟩ _ rfl
      change Code.wp _ _ _ _ (w.alloc (.cells (Ins.cells ⟨op, a, b, imm⟩).toArray 109))
      generalize (w.alloc (.cells (Ins.cells ⟨op, a, b, imm⟩).toArray 109)) = W0 at bx0 hb0 ⊢
      obtain ⟨z0, z1, z2, z3⟩ := bx0.c4
      go_wp2_with (first
        | (go_at_call 111; (with_reducible refine (C0.out _).mono ?_); rintro e1 w1 ⟨rfl, rfl⟩)
        | (go_at_call 32; (with_reducible refine (CI.out _).mono ?_); rintro e1 w1 ⟨rfl, rfl⟩)
        | (go_at_call 112; first | ((with_reducible refine (C1.out _).mono ?_); rintro e1 w1 ⟨rfl, rfl⟩) | ((with_reducible refine (C2.out _).mono ?_); rintro e1 w1 ⟨rfl, rfl⟩)))
      all_goals go_ret
      all_goals first | exact ⟨rfl, hb0⟩
    | true =>
      cases y with
      | false =>
        clear hz hc
        go_enter Tryd.func104, Tryd.ntmps104
        go_upto_region 1 with fail
        obtain ⟨bx0, hb0⟩ := entryI w ⟨op, a, b, imm⟩ _ rfl
        change Code.wp _ _ _ _ (w.alloc (.cells (Ins.cells ⟨op, a, b, imm⟩).toArray 109))
        generalize (w.alloc (.cells (Ins.cells ⟨op, a, b, imm⟩).toArray 109)) = W0 at bx0 hb0 ⊢
        obtain ⟨z0, z1, z2, z3⟩ := bx0.c4
        go_wp2_with (first
          | (go_at_call 111; (with_reducible refine (C0.out _).mono ?_); rintro e1 w1 ⟨rfl, rfl⟩)
          | (go_at_call 32; (with_reducible refine (CI.out _).mono ?_); rintro e1 w1 ⟨rfl, rfl⟩)
          | (go_at_call 112; first | ((with_reducible refine (C1.out _).mono ?_); rintro e1 w1 ⟨rfl, rfl⟩) | ((with_reducible refine (C2.out _).mono ?_); rintro e1 w1 ⟨rfl, rfl⟩)))
        all_goals go_ret
        all_goals first | exact ⟨rfl, hb0⟩
      | true =>
        rcases hc with rfl | rfl
        · subst hz
          generalize fitsK 5 imm = z at CI ⊢
          cases z with
          | false =>
            go_enter Tryd.func104, Tryd.ntmps104
            go_upto_region 1 with fail
            obtain ⟨bx0, hb0⟩ := entryI w ⟨op, a, b, imm⟩ _ rfl
            change Code.wp _ _ _ _ (w.alloc (.cells (Ins.cells ⟨op, a, b, imm⟩).toArray 109))
            generalize (w.alloc (.cells (Ins.cells ⟨op, a, b, imm⟩).toArray 109)) = W0 at bx0 hb0 ⊢
            obtain ⟨z0, z1, z2, z3⟩ := bx0.c4
            go_wp2_with (first
              | (go_at_call 111; (with_reducible refine (C0.out _).mono ?_); rintro e1 w1 ⟨rfl, rfl⟩)
              | (go_at_call 32; (with_reducible refine (CI.out _).mono ?_); rintro e1 w1 ⟨rfl, rfl⟩)
              | (go_at_call 112; first | ((with_reducible refine (C1.out _).mono ?_); rintro e1 w1 ⟨rfl, rfl⟩) | ((with_reducible refine (C2.out _).mono ?_); rintro e1 w1 ⟨rfl, rfl⟩)))
            all_goals go_ret
            all_goals first | exact ⟨rfl, hb0⟩
          | true =>
            go_enter Tryd.func104, Tryd.ntmps104
            go_upto_region 1 with fail
            obtain ⟨bx0, hb0⟩ := entryI w ⟨op, a, b, imm⟩ _ rfl
            change Code.wp _ _ _ _ (w.alloc (.cells (Ins.cells ⟨op, a, b, imm⟩).toArray 109))
            generalize (w.alloc (.cells (Ins.cells ⟨op, a, b, imm⟩).toArray 109)) = W0 at bx0 hb0 ⊢
            obtain ⟨z0, z1, z2, z3⟩ := bx0.c4
            go_wp2_with (first
              | (go_at_call 111; (with_reducible refine (C0.out _).mono ?_); rintro e1 w1 ⟨rfl, rfl⟩)
              | (go_at_call 32; (with_reducible refine (CI.out _).mono ?_); rintro e1 w1 ⟨rfl, rfl⟩)
              | (go_at_call 112; first | ((with_reducible refine (C1.out _).mono ?_); rintro e1 w1 ⟨rfl, rfl⟩) | ((with_reducible refine (C2.out _).mono ?_); rintro e1 w1 ⟨rfl, rfl⟩)))
            all_goals go_ret
            all_goals first | exact ⟨rfl, hb0⟩
        · subst hz
          have e0 : fitsK 0 imm = (imm == 0) := rfl
          rw [e0]
          go_enter Tryd.func104, Tryd.ntmps104
          go_upto_region 1 with fail
          obtain ⟨bx0, hb0⟩ := entryI w ⟨op, a, b, imm⟩ _ rfl
          change Code.wp _ _ _ _ (w.alloc (.cells (Ins.cells ⟨op, a, b, imm⟩).toArray 109))
          generalize (w.alloc (.cells (Ins.cells ⟨op, a, b, imm⟩).toArray 109)) = W0 at bx0 hb0 ⊢
          obtain ⟨z0, z1, z2, z3⟩ := bx0.c4
          go_wp2_with (first
            | (go_at_call 111; (with_reducible refine (C0.out _).mono ?_); rintro e1 w1 ⟨rfl, rfl⟩)
            | (go_at_call 32; (with_reducible refine (CI.out _).mono ?_); rintro e1 w1 ⟨rfl, rfl⟩)
            | (go_at_call 112; first | ((with_reducible refine (C1.out _).mono ?_); rintro e1 w1 ⟨rfl, rfl⟩) | ((with_reducible refine (C2.out _).mono ?_); rintro e1 w1 ⟨rfl, rfl⟩)))
          all_goals go_ret
          all_goals first | exact ⟨rfl, hb0⟩
  · refine fin false (by unfold Ins.formed; rw [decide_eq_false h]; rfl) ?_
    have C0 : Hid (∀ w1, Calls Tryd.prog 111 #[.int .i64 op] w1 fun e w' => e = .returned (.tuple #[.string ⟨#[]⟩, .int .i64 0, .int .i64 0, .bool false]) ∧ w1 = w') := fun w1 => by have := r38_form op w1; unfold formR at this; rw [if_neg h] at this; exact this
    clear fin h
    go_enter Tryd.func104, Tryd.ntmps104
    go_wp2_with (go_at_call 111; (with_reducible refine (C0.out _).mono ?_); rintro e1 w1 ⟨rfl, rfl⟩)
    go_ret
    exact ⟨rfl, (Below.refl _ _).alloc (Nat.le_refl _) _⟩
end Go.Proofs.YtdiflpbioohddaaDoor
end
section
namespace Go.Proofs.YtdiflpbioohddaaDoor
open Go.RowKit
def InsAt (w : World) (A : Option Addr) (l : List Ins) : Prop := ∀ (k : Nat) i, l[k]? = some i → ∃ ad, A = some ad ∧ ad.spot = none ∧ ad.block < w.heap.size ∧ w.rangeAt ad.block (ad.off + k * 4) i.cells ∧ i.ok
theorem range_keepI {w w' : World} {b o : Nat} {cs : List Value} {B : Nat} (h : w.rangeAt b o cs) (hb : b < B) (hB : Below B w w') : w'.rangeAt b o cs := fun j v hj => (hB.cell (p := ⟨b, o + j, none⟩) hb).trans (h j v hj)
theorem InsAt.grow {w w' : World} {A : Option Addr} {l : List Ins} (h : InsAt w A l) (hb : Below w.heap.size w w') : InsAt w' A l := fun k i hk => by
  obtain ⟨ad, e, h1, h2, h3, h4⟩ := h k i hk
  exact ⟨ad, e, h1, Nat.lt_of_lt_of_le h2 hb.size, range_keepI h3 h2 hb, h4⟩
theorem InsAt.ok {w : World} {A : Option Addr} {l : List Ins} (h : InsAt w A l) : ∀ i ∈ l, i.ok := fun i hi => by
  obtain ⟨k, hk⟩ := List.getElem?_of_mem hi
  obtain ⟨ad, -, -, -, -, h4⟩ := h k i hk
  exact h4
theorem add_noneI {ad : Addr} {n : Nat} (h : ad.spot = none) : ad.add n = ⟨ad.block, ad.off + n, none⟩ := by
  obtain ⟨b, o, s⟩ := ad
  simp only at h
  subst h
  unfold Addr.add
  split
  · rename_i e; subst e; rfl
  · rfl
theorem ins_cells {w : World} {i : Ins} {ad : Addr} {n : Nat} (hs : ad.spot = none) (hr : w.rangeAt ad.block (ad.off + n) i.cells) :
    w.cell? (ad.add n) = some (.int .i64 i.op) ∧ w.cell? ⟨(ad.add n).block, (ad.add n).off + 1, none⟩ = some (.int .i64 i.a) ∧ w.cell? ⟨(ad.add n).block, (ad.add n).off + 2, none⟩ = some (.int .i64 i.b) ∧ w.cell? ⟨(ad.add n).block, (ad.add n).off + 3, none⟩ = some (.int .i64 i.imm) := by
  rw [add_noneI hs]
  exact ⟨hr 0 _ rfl, hr 1 _ rfl, hr 2 _ rfl, hr 3 _ rfl⟩
theorem row_ins : ∃ d, Tryd.prog.underlying 109 = some d ∧ d.isRow = true := ⟨_, Tryd.underlying109, rfl⟩
theorem size_ins : (Tryd.prog.info? 109).map (·.size) = some 4 := by kernel_rfl
theorem ld_insA {ops : Array Oper} {rest : List Oper} {o : Oper} {a : Act} {Q : Exit → Act → World → Prop} {w : World} {i : Ins} {ad : Addr} {n : Nat} (hs : ad.spot = none) (hr : w.rangeAt ad.block (ad.off + n) i.cells) (hgd : o.guard = none) (x : Operand) (ho : o.op = .load 109 x) (hx : a.eval x = .pointer (some (ad.add n))) (h : wpList Tryd.prog ops Q rest (a.put o.dst i.v) w) : wpList Tryd.prog ops Q (o :: rest) a w := by
  obtain ⟨d, h1, h2⟩ := row_ins
  rw [add_noneI hs] at hx
  exact wpList_load_mid hgd _ x ho ad.block (ad.off + n) hx i.cells d hr h1 h2 size_ins h
theorem ld_ins {ops : Array Oper} {rest : List Oper} {o : Oper} {a : Act} {Q : Exit → Act → World → Prop} {w : World} {i : Ins} {g : Nat} (hb : Box w g i.cells) (hgd : o.guard = none) (x : Operand) (ho : o.op = .load 109 x) (hx : a.eval x = .pointer (some ⟨g, 0, none⟩)) (h : wpList Tryd.prog ops Q rest (a.put o.dst i.v) w) : wpList Tryd.prog ops Q (o :: rest) a w := by
  obtain ⟨d, h1, h2⟩ := row_ins
  exact wp_ld hgd _ x ho g 0 hx hb i.cells (fun j v hj => by rw [Nat.zero_add]; exact hj) d h1 h2 size_ins h
theorem st_ins {ops : Array Oper} {rest : List Oper} {o : Oper} {a : Act} {Q : Exit → Act → World → Prop} {w : World} {i j : Ins} {g : Nat} (hb : Box w g i.cells) (hgd : o.guard = none) (x y : Operand) (ho : o.op = .store 109 x y) (hx : a.eval x = .pointer (some ⟨g, 0, none⟩)) (hy : a.eval y = j.v)
    (h : ∀ W1, Box W1 g j.cells → w.grownBy W1 (some g) → wpList Tryd.prog ops Q rest (a.put o.dst undef) W1) : wpList Tryd.prog ops Q (o :: rest) a w :=
  wp_st hgd _ x y ho g 0 j.cells hx hy size_ins rfl hb (by show 0 + 4 ≤ 4; omega) rfl h
def Ins.zero : Ins := ⟨0, 0, 0, 0⟩
end Go.Proofs.YtdiflpbioohddaaDoor
end
