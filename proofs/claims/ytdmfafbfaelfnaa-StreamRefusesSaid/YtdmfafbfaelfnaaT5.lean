/- The walks of total, Values and Step of the reference of layer 22, for valid networks, states and inputs. -/
import Derived.Test.YtdmfafbfaelfnaaT4
namespace Go.Proofs.Ytdmfafbfaelfnaa
open Go.RowKit

set_option maxHeartbeats 1000000 in
theorem r22_total (B VA : Option Addr) (bc vn vc : Nat) (ts : List (Int × Int)) (vs : List Int) (w : World) (hT : TermsAt w B ts) (hV : Ints w VA vs) (hvn : vs.length = vn) (h9 : vn ≤ 1000000) (h64 : ts.length ≤ 64)
    (ht : ∀ t ∈ ts, (0 ≤ t.1 ∧ t.1 < (vn : Int)) ∧ -8388608 ≤ t.2 ∧ t.2 ≤ 8388608) (hv : ∀ v ∈ vs, -8388608 ≤ v ∧ v ≤ 8388608) :
    Calls Try.prog 44 #[.agg #[.slice B ts.length bc], .slice VA vn vc] w fun e w' => e = .returned (.int .i64 (sumT ts vs ts.length)) ∧ Below w.heap.size w w' := by
  have HT := Lib.hid hT
  have HV := Lib.hid hV
  have HVN := Lib.hid hvn
  have HTE := Lib.hid ht
  have HVB := Lib.hid hv
  have hal := (Below.refl w.heap.size w).alloc (Nat.le_refl _) (.cells #[.slice B ts.length bc] 60)
  have HAL := Lib.hid hal
  have BX : Hid (∀ w', Below (w.heap.size + 1) (w.alloc (.cells #[.slice B ts.length bc] 60)) w' → w'.cell? ⟨w.heap.size, 0, none⟩ = some (.slice B ts.length bc)) := fun w' h => (h.cell (Nat.lt_succ_self _)).trans (by simp [go_sem])
  clear hT hV hvn ht hv hal
  go_enter Try.func44, Try.ntmps44
  go_wp2_with fail
  go_loopw [5, 6] (fun u i wr => ∃ j : Nat, j ≤ ts.length ∧ i = .int .i64 j ∧ u = .int .i64 (sumT ts vs j) ∧ Hid (Below (w.heap.size + 1) (w.alloc (.cells #[.slice B ts.length bc] 60)) wr)) (fun _ i _ => ts.length - (intOf i).toNat)
  case atStart => exact ⟨0, Nat.zero_le _, rfl, rfl, Below.refl _ _⟩
  case round =>
    obtain ⟨j, hj, rfl, rfl, HB⟩ := hrel
    have z0 := BX.out _ HB.out
    by_cases hltj : j < ts.length
    · obtain ⟨tm, htm⟩ : ∃ tm, ts[j]? = some tm := ⟨_, List.getElem?_eq_getElem hltj⟩
      have hbw := below_net2 HB.out
      obtain ⟨a2, rfl, hb2, ct0, ct1, i1, i2⟩ := (HT.out.grow hbw) j tm htm
      obtain ⟨⟨f1, f2⟩, f3, f4⟩ := HTE.out tm (List.mem_of_getElem? htm)
      obtain ⟨f, cv⟩ := tm
      simp only at ct0 ct1 i1 i2 f1 f2 f3 f4
      obtain ⟨q, rfl⟩ : ∃ q : Nat, f = (q : Int) := ⟨f.toNat, by omega⟩
      obtain ⟨av, z, rfl, hbv, hz, hcz, -, -⟩ := (HV.out.grow hbw).at_ (k := q) (by rw [HVN.out]; omega)
      obtain ⟨s1, s2, s3⟩ := sum_step (fun t ht => (HTE.out t ht).2) HVB.out h64 htm (atF_nat hz)
      have HS1 := Lib.hid s1
      have x2 : (0 : Int) ≤ (j : Int) := by omega
      have x3 : (j : Int) < (ts.length : Int) := by omega
      have x4 : (q : Int) < (vn : Int) := by omega
      clear htm i1 i2 s1 hz f1 f2 f3 f4 hbw
      go_wp2_with fail
      go_quiet (fail)
      go_wp2_with fail
      go_roundw
      case rel => exact ⟨j + 1, by omega, by go_num, by rw [HS1.out], below_drewN HB.out _⟩
      case measure => simp [intOf]; omega
    · obtain rfl : j = ts.length := by omega
      go_wp2_with fail
      go_ret
      exact ⟨rfl, below_net2 HB.out⟩
theorem wordsB_true {d0 d1 d2 d3 : Int} {s : List Int} (h : ∀ v ∈ s, fitsW d0 d1 d2 d3 v = true) : wordsB d0 d1 d2 d3 s = true := by unfold wordsB; rw [List.all_eq_true]; exact h
set_option maxRecDepth 100000 in
set_option maxHeartbeats 2000000 in
theorem r22_Values (d0 d1 d2 d3 c0 c1 c2 c3 st out x : Int) (NA XA SA : Option Addr) (nc xc sn sc : Nat) (ns : List (List (Int × Int))) (nx s : List Int) (w : World) (hok : netB d0 d1 d2 d3 c0 c1 c2 c3 st ns nx out = true) (hN : NodesAt w NA ns) (hX : Ints w XA nx) (hS : Ints w SA s)
    (hsn : s.length = sn) (hst : (sn : Int) = st) (hfs : ∀ v ∈ s, fitsW d0 d1 d2 d3 v = true) (hfx : fitsW d0 d1 d2 d3 x = true) (h3 : ∀ ts ∈ ns, ts.length ≤ 9223372036854775807) :
    Calls Try.prog 33 #[netV d0 d1 d2 d3 c0 c1 c2 c3 st NA ns.length nc XA nx.length xc out, .slice SA sn sc, .int .i64 x] w (RetVals3 w (valsF d0 d1 d2 d3 c1 ns (x :: s) ns.length) (overF d0 d1 d2 d3 c1 ns (x :: s) ns.length)) := by
  subst hst
  obtain ⟨p1, p2, p3, p4, p5, p6, -, -⟩ := netB_parts hok
  obtain ⟨q1, q2⟩ := fits_23 hfx
  have HXI : Hid (I64 x) := ⟨by omega, by omega⟩
  have hn9 : ns.length ≤ 9223372036854775807 := by omega
  have hx9 : nx.length ≤ 9223372036854775807 := by omega
  have hI : I64 (sn : Int) := ⟨by omega, by omega⟩
  have CV : Hid (∀ w1, NodesAt w1 NA ns → Ints w1 XA nx → Calls Try.prog 15 #[netV d0 d1 d2 d3 c0 c1 c2 c3 sn NA ns.length nc XA nx.length xc out] w1 fun e w' => e = .returned (.bool true) ∧ Below w1.heap.size w1 w') := fun w1 a b => by
    have := r22_Valid d0 d1 d2 d3 c0 c1 c2 c3 sn out NA XA nc xc ns nx w1 a b hn9 hx9 h3 hI
    rw [hok] at this; exact this
  have CW : Hid (∀ w1, Ints w1 SA s → Calls Try.prog 14 #[wordV d0 d1 d2 d3, .slice SA sn sc] w1 fun e w' => e = .returned (.bool true) ∧ Below w1.heap.size w1 w') := fun w1 a => by
    have := rf_Words d0 d1 d2 d3 SA s sc w1 (by omega) a
    rw [wordsB_true hfs, hsn] at this; exact this
  have CF : Hid (∀ w1, Calls Try.prog 31 #[wordV d0 d1 d2 d3, .int .i64 x] w1 fun e w' => e = .returned (.bool true) ∧ Below w1.heap.size w1 w') := fun w1 => by
    have := rf_Fits d0 d1 d2 d3 x w1; rw [hfx] at this; exact this
  obtain ⟨xn, hxn⟩ : ∃ n, nx.length = n := ⟨_, rfl⟩
  obtain ⟨nn, hnn⟩ : ∃ n, ns.length = n := ⟨_, rfl⟩
  obtain ⟨P, HP0, PN0⟩ := netQ_mk w d0 d1 d2 d3 c0 c1 c2 c3 (sn : Int) NA ns ns.length nc XA nx nx.length xc out hN hX
  rw [hxn, hnn] at HP0 PN0 CV
  unfold netV at CV ⊢
  rw [hnn, hxn]
  rw [hnn] at p4
  have HLEN : Hid (∀ k, k ≤ nn → (valsF d0 d1 d2 d3 c1 ns (x :: s) k).length = 1 + sn + k) := fun k hk => by rw [valsF_length _ _ _ _ _ _ _ k (by omega), List.length_cons, hsn]; omega
  have HB : Hid (∀ k, ∀ v ∈ valsF d0 d1 d2 d3 c1 ns (x :: s) k, -8388608 ≤ v ∧ v ≤ 8388608) := fun k v hv => fits_23 (valsF_fits p1 (fits_cons hfx hfs) k v hv)
  have HP := Lib.hid HP0
  have PN := Lib.hid PN0
  have HTS := Lib.hid p6
  have HS := Lib.hid hS
  have HSN := Lib.hid hsn
  have HNN := Lib.hid hnn
  have hs64 : sn ≤ 64 := by omega
  clear HP0 PN0 hnn hxn hN hX hS hfs hfx hsn p5 p1 p2 p3 p6 hok h3 hn9 hx9 hI q1 q2
  go_enter Try.func33, Try.ntmps33
  go_wp2_with (first
    | (go_at_call 15; with_reducible refine (CV.out _ (PN.out.nodes _ HP.out) (PN.out.next _ HP.out)).mono ?_; rintro e w1 ⟨rfl, hb1⟩; have hp1 := PN.out.go1 HP.out hb1; obtain ⟨a1, a2, a3, a4⟩ := PN.out.dat _ hp1; obtain ⟨b1, b2, b3, b4⟩ := PN.out.res _ hp1; have hl1 := PN.out.lt _ hp1)
    | (go_at_call 14; with_reducible refine (CW.out _ (HS.out.grow (PN.out.old _ hp1))).mono ?_; rintro e w2 ⟨rfl, hb2⟩; have hp2 := PN.out.go1 hp1 hb2; obtain ⟨a1, a2, a3, a4⟩ := PN.out.dat _ hp2)
    | (go_at_call 31; with_reducible refine (CF.out _).mono ?_; rintro e w3 ⟨rfl, hb3⟩; have hp3 := PN.out.go1 hp2 hb3; have hs3 := PN.out.lt _ hp3; have ho4 := (Own.single (w := w3) HXI.out).base hs3; have hp4 := PN.out.al hp3 (.cells #[.int .i64 x] 3); have hs4 := PN.out.lt _ hp4; have hi4 := HS.out.grow (PN.out.old _ hp4))
    | (at_builtin; refine app_intsN _ rfl _ _ rfl (w.heap.size + 1) (m := s) rfl rfl HSN.out ho4 hi4 (by simp; omega) hs4 ?_; intro v5 w5 hown5 hb5; have hp5 := PN.out.go _ _ hp4 hb5; obtain ⟨b1, b2, b3, b4⟩ := PN.out.res _ hp5))
  have HO5 : Hid (Own (w.heap.size + 1) w5 v5 (valsF d0 d1 d2 d3 c1 ns (x :: s) 0)) := hown5
  have HP5 := Lib.hid hp5
  clear a1 a2 a3 a4 b1 b2 b3 b4 hp5 hown5 hb5 hp4 hs4 hi4 ho4 hp3 hs3 hb3 hp2 hb2 hp1 hb1 hl1
  go_loopw [9, 10, 11] (fun v o i wr => ∃ k : Nat, k ≤ nn ∧ i = .int .i64 k ∧ o = .bool (overF d0 d1 d2 d3 c1 ns (x :: s) k) ∧ Hid (Own (w.heap.size + 1) wr v (valsF d0 d1 d2 d3 c1 ns (x :: s) k)) ∧ P wr) (fun _ _ i _ => nn - (intOf i).toNat)
  case atStart => exact ⟨0, Nat.zero_le _, rfl, rfl, HO5, HP5.out⟩
  case round =>
    obtain ⟨k, hk, rfl, rfl, HO, hp⟩ := hrel
    have hlw := PN.out.lt _ hp
    obtain ⟨b1, b2, b3, b4⟩ := PN.out.res _ hp
    by_cases hlt : k < nn
    · obtain ⟨ts, hts⟩ : ∃ ts, ns[k]? = some ts := ⟨_, List.getElem?_eq_getElem (by rw [HNN.out]; exact hlt)⟩
      obtain ⟨ad, B, bc, rfl, hba, cn, hT⟩ := PN.out.nodes _ hp k ts hts
      obtain ⟨hl64, hterms⟩ := HTS.out k ts hts
      obtain ⟨vs, hvs⟩ : ∃ vs, valsF d0 d1 d2 d3 c1 ns (x :: s) k = vs := ⟨_, rfl⟩
      have hsucc := valsF_succ (d0 := d0) (d1 := d1) (d2 := d2) (d3 := d3) (c1 := c1) (x := x :: s) hts
      have hover := overF_succ (d0 := d0) (d1 := d1) (d2 := d2) (d3 := d3) (c1 := c1) (x := x :: s) hts
      have hvl := HLEN.out k (by omega)
      have hvb := HB.out k
      rw [hvs] at hsucc hover hvl hvb HO
      obtain ⟨ov, hov⟩ : ∃ ov, overF d0 d1 d2 d3 c1 ns (x :: s) k = ov := ⟨_, rfl⟩
      rw [hov] at hover ⊢
      obtain ⟨U, hU⟩ : ∃ U, nodeV d2 c1 vs ts = U := ⟨_, rfl⟩
      have hU2 : shiftF (sumT ts vs ts.length) c1 d2 = U := hU
      rw [hU] at hsucc hover
      have HSUCC := Lib.hid hsucc
      have HOVER := Lib.hid hover
      obtain ⟨VA, vcap, e9, hcap, hIV⟩ := HO.out.form
      subst e9
      have hsi := sum_i64 (fun t ht => (hterms t ht).2) hvb hl64
      have hvls : vs.length < 100000000 := by omega
      have hv9 : vs.length ≤ 1000000 := by omega
      have FT : Hid (∀ n : Ext wr, Calls Try.prog 44 #[.agg #[.slice B ts.length bc], .slice VA vs.length vcap] n.to fun e w' => e = .returned (.int .i64 (sumT ts vs ts.length)) ∧ Below n.to.heap.size n.to w') := fun n =>
        r22_total B VA bc vs.length vcap ts vs n.to (hT.grow n.below) (hIV.grow n.below) rfl hv9 hl64 (fun t ht => ⟨⟨((hterms t ht).1).1, by rw [hvl]; have := ((hterms t ht).1).2; push_cast; omega⟩, (hterms t ht).2⟩) hvb
      obtain ⟨vn, hvn⟩ : ∃ vn, vs.length = vn := ⟨_, rfl⟩
      rw [hvn] at HO FT hcap ⊢
      have HVN := Lib.hid hvn
      have FS : Hid (∀ w, Calls Try.prog 43 #[.int .i64 (sumT ts vs ts.length), .int .i64 c1, .int .i64 d2] w fun e w' => e = .returned (.int .i64 U) ∧ Below w.heap.size w w') := Lib.hid (fun w => by have := rf_Shift (sumT ts vs ts.length) c1 d2 w hsi; rw [hU2] at this; exact this)
      obtain ⟨R, hR⟩ : ∃ R, reduceW d0 d1 d2 d3 U = R := ⟨_, rfl⟩
      have hR23 : -8388608 ≤ R ∧ R ≤ 8388608 := HB.out (k + 1) R (by rw [HSUCC.out, ← hR]; simp)
      have FR : Hid (∀ w, Calls Try.prog 45 #[wordV d0 d1 d2 d3, .int .i64 U] w fun e w' => e = .returned (.int .i64 R) ∧ Below w.heap.size w w') := Lib.hid (fun w => by have := rf_Reduce d0 d1 d2 d3 U w; rw [hR] at this; exact this)
      have HR := Lib.hid hR
      obtain ⟨fu, hfu⟩ : ∃ fu, fitsW d0 d1 d2 d3 U = fu := ⟨_, rfl⟩
      have FF : Hid (∀ w, Calls Try.prog 31 #[wordV d0 d1 d2 d3, .int .i64 U] w fun e w' => e = .returned (.bool fu) ∧ Below w.heap.size w w') := Lib.hid (fun w => by have := rf_Fits d0 d1 d2 d3 U w; rw [hfu] at this; exact this)
      have HFU := Lib.hid hfu
      have y1 : (0 : Int) ≤ (k : Int) := by omega
      have y2 : (k : Int) < (nn : Int) := by omega
      have HRI : Hid (I64 R) := ⟨by omega, by omega⟩
      have HPP := Lib.hid hp
      have xc1 : ∀ n : Ext wr, n.to.cell? ⟨w.heap.size, 9, none⟩ = some (.slice (some ad) nn nc) := fun n => ((n.below.cell (by show w.heap.size < _; omega)).trans b2)
      have xc2 : ∀ n : Ext wr, n.to.cell? (ad.add k) = some (.slice B ts.length bc) := fun n => (n.below.cell (by rw [block_add]; exact hba)).trans cn
      have xc3 : ∀ n : Ext wr, n.to.cell? ⟨w.heap.size, 5, none⟩ = some (.int .i64 c1) := fun n => ((n.below.cell (by show w.heap.size < _; omega)).trans (PN.out.coe _ hp).2.1)
      have xc4 : ∀ n : Ext wr, n.to.cell? ⟨w.heap.size, 2, none⟩ = some (.int .i64 d2) := fun n => ((n.below.cell (by show w.heap.size < _; omega)).trans (PN.out.dat _ hp).2.2.1)
      have X1 := Lib.hid xc1
      have X2 := Lib.hid xc2
      have X3 := Lib.hid xc3
      have X4 := Lib.hid xc4
      have hvls : vn < 100000000 := by omega
      clear hp hT hts hsucc hover hvl hvb hterms hvs hov hU hU2 hIV hsi xc1 xc2 xc3 xc4 hR hfu hvn hR23 hcap
      clear hv9
      go_wp2_with fail
      clear cn b1 b2 b3 b4
      have xc1 := X1.out
      have xc2 := X2.out
      have xc3 := X3.out
      have xc4 := X4.out
      refine wp_region_ext (by kernel_rfl) (by kernel_rfl) ?_
      repeat (go_big_quiet_step (first
        | (go_at_call 44; exact ext_below (FT.out _))
        | (go_at_call 43; exact ext_below (FS.out _))))
      refine wpQuiet_nil ?_
      rintro _ ⟨⟨w6, hb6⟩, rfl⟩
      clear xc1 xc2 xc3 xc4
      have hp6 := PN.out.go1 HPP.out hb6
      obtain ⟨a1, a2, a3, a4⟩ := PN.out.dat _ hp6
      have ho6 := HO.out.grow hb6
      have hl6 := PN.out.lt _ hp6
      rcases ov with _ | _
      · go_wp2_with (first
          | (go_at_call 31; with_reducible refine (FF.out _).mono ?_; rintro e w7 ⟨rfl, hb7⟩; have hp7 := PN.out.go1 hp6 hb7; obtain ⟨a1, a2, a3, a4⟩ := PN.out.dat _ hp7; have ho7 := ho6.grow hb7)
          | (go_at_call 45; with_reducible refine (FR.out _).mono ?_; rintro e w8 ⟨rfl, hb8⟩; have hp8 := PN.out.go1 hp7 hb8; have ho8 := ho7.grow hb8; have hs8 := PN.out.lt _ hp8)
          | (at_builtin; refine app_int w8 rfl _ _ rfl (w.heap.size + 1) ho8 rfl rfl (by rw [HVN.out]; exact hvls) hs8 (y := R) HRI.out ?_; intro v9 w9 ho9 hb9; have hp9 := PN.out.go _ _ hp8 hb9))
        go_roundw
        case rel => exact ⟨k + 1, by omega, by go_num, by rw [HOVER.out, HFU.out]; rfl, by rw [HSUCC.out, HR.out]; exact ho9, hp9⟩
        case measure => simp [intOf]; omega
      · go_wp2_with (first
          | (go_at_call 45; with_reducible refine (FR.out _).mono ?_; rintro e w8 ⟨rfl, hb8⟩; have hp8 := PN.out.go1 hp6 hb8; have ho8 := ho6.grow hb8; have hs8 := PN.out.lt _ hp8)
          | (at_builtin; refine app_int w8 rfl _ _ rfl (w.heap.size + 1) ho8 rfl rfl (by rw [HVN.out]; exact hvls) hs8 (y := R) HRI.out ?_; intro v9 w9 ho9 hb9; have hp9 := PN.out.go _ _ hp8 hb9))
        go_roundw
        case rel => exact ⟨k + 1, by omega, by go_num, by rw [HOVER.out]; rfl, by rw [HSUCC.out, HR.out]; exact ho9, hp9⟩
        case measure => simp [intOf]; omega
    · have hkk : k = nn := by omega
      subst hkk
      have HPP := Lib.hid hp
      clear hp
      go_wp2_with fail
      go_ret3
      obtain ⟨A, c, rfl, -, hi⟩ := HO.out.form
      exact ⟨A, c, rfl, hi, PN.out.old _ HPP.out⟩
end Go.Proofs.Ytdmfafbfaelfnaa
