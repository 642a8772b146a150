/- The walks of wrong, compute, Values and Step of package network, for valid networks, states and inputs. -/
import Derived.Test.YtodnbekeidbknaaT2
set_option linter.unusedVariables false
set_option linter.unusedSimpArgs false
namespace Go.Proofs.Ytodnbekeidbknaa
open Go.RowKit

theorem fits_cons {d0 d1 d2 d3 x : Int} {s : List Int} (h1 : fitsW d0 d1 d2 d3 x = true) (h2 : ∀ v ∈ s, fitsW d0 d1 d2 d3 v = true) : ∀ v ∈ x :: s, fitsW d0 d1 d2 d3 v = true := fun v hv => by
  rcases List.mem_cons.1 hv with rfl | h
  · exact h1
  · exact h2 v h
theorem sumT_succ {ts : List (Int × Int)} {vs : List Int} {i : Nat} {t : Int × Int} (h : ts[i]? = some t) : sumT ts vs (i + 1) = sumT ts vs i + t.2 * atF vs t.1 := by
  show sumT ts vs i + _ = _
  rw [h]
/-- What a step of a sum needs. -/
theorem sum_step {ts : List (Int × Int)} {vs : List Int} {i : Nat} {f c y : Int} (ht : ∀ t ∈ ts, -8388608 ≤ t.2 ∧ t.2 ≤ 8388608) (hv : ∀ v ∈ vs, -8388608 ≤ v ∧ v ≤ 8388608) (h64 : ts.length ≤ 64) (h : ts[i]? = some (f, c)) (hy : atF vs f = y) :
    sumT ts vs (i + 1) = sumT ts vs i + c * y ∧ IntKind.i64.wrap (c * y) = c * y ∧ IntKind.i64.wrap (sumT ts vs i + c * y) = sumT ts vs i + c * y := by
  have h1 := sumT_succ (vs := vs) h
  simp only at h1
  rw [hy] at h1
  have hi := (List.getElem?_eq_some_iff.1 h).1
  have b1 := prod_46 (ht _ (List.mem_of_getElem? h)) (atF_23 hv f)
  rw [hy] at b1
  simp only at b1
  have b2 := sumT_bound ht hv (i + 1)
  rw [h1] at b2
  exact ⟨h1, IntWalk.i64_in _ (by omega), IntWalk.i64_in _ (by omega)⟩
theorem sum_i64 {ts : List (Int × Int)} {vs : List Int} (ht : ∀ t ∈ ts, -8388608 ≤ t.2 ∧ t.2 ≤ 8388608) (hv : ∀ v ∈ vs, -8388608 ≤ v ∧ v ≤ 8388608) (h64 : ts.length ≤ 64) : I64 (sumT ts vs ts.length) := by
  have := sumT_bound ht hv ts.length
  constructor <;> omega
/-- The values of a network, and whether one overflowed. -/
def RetVals (w : World) (l : List Int) (o : Bool) (e : Ending) (w' : World) : Prop := ∃ v, e = .returned (.tuple #[v, .bool o]) ∧ Own w.heap.size w' v l ∧ Below w.heap.size w w'
def RetVals3 (w : World) (l : List Int) (o : Bool) (e : Ending) (w' : World) : Prop := ∃ A c, e = .returned (.tuple #[.slice A l.length c, .bool o, .int .i64 0]) ∧ Ints w' A l ∧ Below w.heap.size w w'
/-- A step: the next state, the output, an overflow. -/
def RetStep (w : World) (l : List Int) (y : Int) (o : Bool) (e : Ending) (w' : World) : Prop := ∃ A c, e = .returned (.tuple #[.slice A l.length c, .int .i64 y, .bool o, .int .i64 0]) ∧ Ints w' A l ∧ (l ≠ [] → ∀ a, A = some a → w.heap.size ≤ a.block) ∧ Below w.heap.size w w'
set_option maxHeartbeats 1000000 in
theorem nw_wrong (d0 d1 d2 d3 c0 c1 c2 c3 st out : Int) (NA XA SA IA : Option Addr) (nc xc sn sc im ic : Nat) (ns : List (List (Int × Int))) (nx s is : List Int) (w : World) (hN : NodesAt w NA ns) (hX : Ints w XA nx) (hS : Ints w SA s) (hI : Ints w IA is)
    (hsn : s.length = sn) (him : is.length = im) (hst : (sn : Int) = st) (hs9 : sn ≤ 1000000) (hi9 : im ≤ 1000000) (hfs : ∀ v ∈ s, fitsW d0 d1 d2 d3 v = true) (hfi : ∀ v ∈ is, fitsW d0 d1 d2 d3 v = true) :
    Calls Try.prog 43 #[netV d0 d1 d2 d3 c0 c1 c2 c3 st NA ns.length nc XA nx.length xc out, .slice SA sn sc, .slice IA im ic] w fun e w' => e = .returned (.int .i64 0) ∧ Below w.heap.size w w' := by
  subst hst
  obtain ⟨xn, hxn⟩ : ∃ n, nx.length = n := ⟨_, rfl⟩
  obtain ⟨nn, hnn⟩ : ∃ n, ns.length = n := ⟨_, rfl⟩
  obtain ⟨P, HP0, PN0⟩ := netQ_mk w d0 d1 d2 d3 c0 c1 c2 c3 (sn : Int) NA ns ns.length nc XA nx nx.length xc out hN hX
  rw [hxn, hnn] at HP0 PN0
  unfold netV
  rw [hnn, hxn]
  have HP := Lib.hid HP0
  have PN := Lib.hid PN0
  have HFS := Lib.hid hfs
  have HFI := Lib.hid hfi
  have HS := Lib.hid hS
  have HI := Lib.hid hI
  have HSN := Lib.hid hsn
  have HIM := Lib.hid him
  have FT : Hid (∀ v w, fitsW d0 d1 d2 d3 v = true → Calls Try.prog 29 #[wordV d0 d1 d2 d3, .int .i64 v] w fun e w' => e = .returned (.bool true) ∧ Below w.heap.size w w') := fun v w h => by have := fx_Fits d0 d1 d2 d3 v w; rw [h] at this; exact this
  clear HP0 PN0 hnn hxn hN hX hS hI hfs hfi hsn him
  go_enter Try.func43, Try.ntmps43
  go_wp2_with fail
  go_loopw [18] (fun i wr => ∃ k : Nat, k ≤ sn ∧ i = .int .i64 k ∧ P wr) (fun i _ => sn - (intOf i).toNat)
  case atStart => exact ⟨0, Nat.zero_le _, rfl, HP.out⟩
  case round =>
    obtain ⟨k, hk, rfl, hp⟩ := hrel
    obtain ⟨z1, z2, z3, z4⟩ := PN.out.dat _ hp
    have hlw := PN.out.lt _ hp
    by_cases hlt : k < sn
    · obtain ⟨ad, y, rfl, hba, hy, hcy, y1, y2⟩ := (HS.out.grow (PN.out.old _ hp)).at_ (k := k) (by rw [HSN.out]; exact hlt)
      have hf := HFS.out y (List.mem_of_getElem? hy)
      have HF := Lib.hid hf
      have HPP := Lib.hid hp
      have x1 : (0 : Int) ≤ (k : Int) := by omega
      have x2 : (k : Int) < (sn : Int) := by omega
      clear hy hf hp
      go_wp2_with (first | (go_at_call 29; with_reducible refine (FT.out _ _ HF.out).mono ?_; rintro e w1 ⟨rfl, hb1⟩))
      go_roundw
      case rel => exact ⟨k + 1, by omega, by go_num, PN.out.go1 HPP.out hb1⟩
      case measure => simp [intOf]; omega
    · obtain rfl : k = sn := by omega
      have HPP := Lib.hid hp
      clear hp z1 z2 z3 z4
      go_wp2_with fail
      go_loopw [30] (fun i wr => ∃ k : Nat, k ≤ im ∧ i = .int .i64 k ∧ P wr) (fun i _ => im - (intOf i).toNat)
      case atStart => exact ⟨0, Nat.zero_le _, rfl, HPP.out⟩
      case round =>
        obtain ⟨j, hj, rfl, hp⟩ := hrel
        obtain ⟨z1, z2, z3, z4⟩ := PN.out.dat _ hp
        have hlw := PN.out.lt _ hp
        by_cases hlt2 : j < im
        · obtain ⟨ad, y, rfl, hba, hy, hcy, y1, y2⟩ := (HI.out.grow (PN.out.old _ hp)).at_ (k := j) (by rw [HIM.out]; exact hlt2)
          have hf := HFI.out y (List.mem_of_getElem? hy)
          have HF := Lib.hid hf
          have HPP := Lib.hid hp
          have x1 : (0 : Int) ≤ (j : Int) := by omega
          have x2 : (j : Int) < (im : Int) := by omega
          clear hy hf hp
          go_wp2_with (first | (go_at_call 29; with_reducible refine (FT.out _ _ HF.out).mono ?_; rintro e w1 ⟨rfl, hb1⟩))
          go_roundw
          case rel => exact ⟨j + 1, by omega, by go_num, PN.out.go1 HPP.out hb1⟩
          case measure => simp [intOf]; omega
        · obtain rfl : j = im := by omega
          have HPP := Lib.hid hp
          clear hp
          go_wp2_with fail
          go_ret
          exact ⟨rfl, PN.out.old _ HPP.out⟩
set_option maxRecDepth 100000 in
set_option maxHeartbeats 2000000 in
theorem nw_compute (d0 d1 d2 d3 c0 c1 c2 c3 st out x : Int) (NA XA SA : Option Addr) (nc xc sn sc : Nat) (ns : List (List (Int × Int))) (nx s : List Int) (w : World) (hok : netB d0 d1 d2 d3 c0 c1 c2 c3 st ns nx out = true) (hN : NodesAt w NA ns) (hX : Ints w XA nx) (hS : Ints w SA s)
    (hsn : s.length = sn) (hst : (sn : Int) = st) (hfs : ∀ v ∈ s, fitsW d0 d1 d2 d3 v = true) (hfx : fitsW d0 d1 d2 d3 x = true) :
    Calls Try.prog 44 #[netV d0 d1 d2 d3 c0 c1 c2 c3 st NA ns.length nc XA nx.length xc out, .slice SA sn sc, .int .i64 x] w (RetVals w (valsF d0 d1 d2 d3 c1 ns (x :: s) ns.length) (overF d0 d1 d2 d3 c1 ns (x :: s) ns.length)) := by
  subst hst
  obtain ⟨p1, p2, p3, p4, -, p5, -, -⟩ := netB_parts hok
  obtain ⟨xn, hxn⟩ : ∃ n, nx.length = n := ⟨_, rfl⟩
  obtain ⟨nn, hnn⟩ : ∃ n, ns.length = n := ⟨_, rfl⟩
  obtain ⟨P, HP0, PN0⟩ := netQ_mk w d0 d1 d2 d3 c0 c1 c2 c3 (sn : Int) NA ns ns.length nc XA nx nx.length xc out hN hX
  rw [hxn, hnn] at HP0 PN0
  unfold netV
  rw [hnn, hxn]
  rw [hnn] at p4
  have hx23 := fits_23 hfx
  have HLEN : Hid (∀ k, k ≤ nn → (valsF d0 d1 d2 d3 c1 ns (x :: s) k).length = 1 + sn + k) := fun k hk => by rw [valsF_length _ _ _ _ _ _ _ k (by omega), List.length_cons, hsn]; omega
  have HB : Hid (∀ k, ∀ v ∈ valsF d0 d1 d2 d3 c1 ns (x :: s) k, -8388608 ≤ v ∧ v ≤ 8388608) := fun k v hv => fits_23 (valsF_fits p1 (fits_cons hfx hfs) k v hv)
  have HP := Lib.hid HP0
  have PN := Lib.hid PN0
  have HTS := Lib.hid p5
  have HS := Lib.hid hS
  have HSN := Lib.hid hsn
  have HNN := Lib.hid hnn
  clear HP0 PN0 hnn hxn hN hX hS hfs hfx hsn p5 p1 p2 hok
  have hs64 : sn ≤ 64 := by omega
  clear p3
  have HSZ : Hid (∀ o, (w.alloc o).heap.size = w.heap.size + 1) := Lib.hid (fun o => by simp)
  go_enter Try.func44, Try.ntmps44
  go_wp2_with (first
    | (at_make; refine mk_int0 rfl _ _ rfl (w.heap.size + 1) (1 + sn + nn) rfl rfl (by push_cast; rfl) (by omega) (by simp) ?_; intro w1 hown1 hb1; rw [show (w.alloc (.cells #[.int .i64 d0, .int .i64 d1, .int .i64 d2, .int .i64 d3, .int .i64 c0, .int .i64 c1, .int .i64 c2, .int .i64 c3, .int .i64 (sn : Int), .slice NA nn nc, .slice XA xn xc, .int .i64 out] 31)).heap.size = w.heap.size + 1 from HSZ.out _] at hown1; have hp1 := PN.out.go1 HP.out hb1; obtain ⟨z1, z2, z3, z4⟩ := PN.out.res _ hp1; have hs1 := PN.out.lt _ hp1)
    | (at_builtin; refine app_int w1 rfl _ _ rfl (w.heap.size + 1) hown1 rfl rfl (by simp) hs1 (y := x) ⟨by omega, by omega⟩ ?_; intro v2 w2 hown2 hb2; have hp2 := PN.out.go _ _ hp1 hb2; obtain ⟨z1, z2, z3, z4⟩ := PN.out.res _ hp2; have hs2 := PN.out.lt _ hp2; have hI2 := HS.out.grow (PN.out.old _ hp2))
    | (at_builtin; refine app_intsN w2 rfl _ _ rfl (w.heap.size + 1) (m := s) rfl rfl HSN.out hown2 hI2 (by simp; omega) hs2 ?_; intro v3 w3 hown3 hb3; have hp3 := PN.out.go _ _ hp2 hb3; obtain ⟨z1, z2, z3, z4⟩ := PN.out.res _ hp3))
  have HO3 : Hid (Own (w.heap.size + 1) w3 v3 (valsF d0 d1 d2 d3 c1 ns (x :: s) 0)) := hown3
  have HP3 := Lib.hid hp3
  clear hp3 hown3 hb3 z1 z2 z3 z4 hp2 hown2 hb2 hI2 hp1 hown1 hb1 hs1 hs2 hx23
  go_loopw [8, 9, 34] (fun v o i wr => ∃ k : Nat, k ≤ nn ∧ i = .int .i64 k ∧ o = .bool (overF d0 d1 d2 d3 c1 ns (x :: s) k) ∧ Hid (Own (w.heap.size + 1) wr v (valsF d0 d1 d2 d3 c1 ns (x :: s) k)) ∧ P wr) (fun _ _ i _ => nn - (intOf i).toNat)
  case atStart => exact ⟨0, Nat.zero_le _, rfl, rfl, HO3, HP3.out⟩
  case round =>
    obtain ⟨k, hk, rfl, rfl, HO, hp⟩ := hrel
    have hlw := PN.out.lt _ hp
    by_cases hlt : k < nn
    · obtain ⟨ts, hts⟩ : ∃ ts, ns[k]? = some ts := ⟨_, List.getElem?_eq_getElem (by rw [HNN.out]; exact hlt)⟩
      obtain ⟨ad, B, bc, rfl, hba, cn, hT⟩ := PN.out.nodes _ hp k ts hts
      obtain ⟨hl64, hterms⟩ := HTS.out k ts hts
      obtain ⟨vs, hvs⟩ : ∃ vs, valsF d0 d1 d2 d3 c1 ns (x :: s) k = vs := ⟨_, rfl⟩
      have hsucc := valsF_succ (d0 := d0) (d1 := d1) (d2 := d2) (d3 := d3) (c1 := c1) (x := x :: s) hts
      have hover := overF_succ (d0 := d0) (d1 := d1) (d2 := d2) (d3 := d3) (c1 := c1) (x := x :: s) hts
      have hvl := HLEN.out k (by omega)
      have hvb := HB.out k
      rw [hvs] at hsucc hover hvl hvb HO
      obtain ⟨ov, hov⟩ : ∃ ov, overF d0 d1 d2 d3 c1 ns (x :: s) k = ov := ⟨_, rfl⟩
      rw [hov] at hover ⊢
      obtain ⟨U, hU⟩ : ∃ U, nodeV d2 c1 vs ts = U := ⟨_, rfl⟩
      have hU2 : shiftF (sumT ts vs ts.length) c1 d2 = U := hU
      rw [hU] at hsucc hover
      have HSUCC := Lib.hid hsucc
      have HOVER := Lib.hid hover
      have HU2 := Lib.hid hU2
      have HVL := Lib.hid hvl
      have HVB := Lib.hid hvb
      have HTE := Lib.hid hterms
      have HSI := Lib.hid (sum_i64 (fun t ht => (hterms t ht).2) hvb hl64)
      have HPP := Lib.hid (PN.out.al hp (.cells #[.slice B ts.length bc] 53))
      have HTA := Lib.hid (hT.grow (Below.alloc (Below.refl wr.heap.size wr) (Nat.le_refl _) (.cells #[.slice B ts.length bc] 53)))
      have HOA := Lib.hid (HO.out.grow (Below.alloc (Below.refl wr.heap.size wr) (Nat.le_refl _) (.cells #[.slice B ts.length bc] 53)))
      have y1 : (0 : Int) ≤ (k : Int) := by omega
      have y2 : (k : Int) < (nn : Int) := by omega
      clear hp hT hts hsucc hover hvl hvb hterms hvs hov hU hU2 HO
      obtain ⟨VA, vcap, e8, hcap, -⟩ := HOA.out.form
      subst e8
      obtain ⟨vn, hvn⟩ : ∃ vn, vs.length = vn := ⟨_, rfl⟩
      rw [hvn] at HOA hcap ⊢
      have HVK : Hid (vn = 1 + sn + k) := Lib.hid (by rw [← hvn]; exact HVL.out)
      have HVN := Lib.hid hvn
      clear hvn hcap
      go_wp2_with fail
      clear cn
      obtain ⟨wo, rfl⟩ : ∃ wo : World, wo = wr := ⟨_, rfl⟩
      go_loopw [12, 41] (fun u i wr => ∃ j : Nat, j ≤ ts.length ∧ i = .int .i64 j ∧ u = .int .i64 (sumT ts vs j) ∧ P wr ∧ TermsAt wr B ts ∧ Hid (Own (w.heap.size + 1) wr (.slice VA vn vcap) vs)) (fun _ i _ => ts.length - (intOf i).toNat)
      case atStart => exact ⟨0, Nat.zero_le _, rfl, rfl, HPP.out, HTA.out, HOA⟩
      case round =>
        obtain ⟨j, hj, rfl, rfl, hp, hT, HO⟩ := hrel
        have hlw := PN.out.lt _ hp
        obtain ⟨z1, z2, z3, z4⟩ := PN.out.dat _ hp
        obtain ⟨t1, t2, t3, t4⟩ := PN.out.coe _ hp
        by_cases hltj : j < ts.length
        · obtain ⟨tm, htm⟩ : ∃ tm, ts[j]? = some tm := ⟨_, List.getElem?_eq_getElem hltj⟩
          obtain ⟨a2, rfl, hb2, ct0, ct1, i1, i2⟩ := hT j tm htm
          obtain ⟨⟨f1, f2⟩, f3, f4⟩ := HTE.out tm (List.mem_of_getElem? htm)
          obtain ⟨f, cv⟩ := tm
          simp only at ct0 ct1 i1 i2 f1 f2 f3 f4
          obtain ⟨q, rfl⟩ : ∃ q : Nat, f = (q : Int) := ⟨f.toNat, by omega⟩
          obtain ⟨A', c', eA, -, hIV⟩ := HO.out.form
          rw [HVN.out] at eA
          injection eA with eA1 eA2 eA3
          subst eA1
          obtain ⟨av, z, rfl, hbv, hz, hcz, -, -⟩ := hIV.at_ (k := q) (by rw [HVN.out, HVK.out]; omega)
          obtain ⟨s1, s2, s3⟩ := sum_step (fun t ht => (HTE.out t ht).2) HVB.out hl64 htm (atF_nat hz)
          have HS1 := Lib.hid s1
          have x2 : (0 : Int) ≤ (j : Int) := by omega
          have x3 : (j : Int) < (ts.length : Int) := by omega
          have hcz2 : (wr.alloc (.cells #[.int .i64 (q : Int), .int .i64 cv] 57)).cell? (av.add q) = some (.int .i64 z) := ((Below.alloc (Below.refl wr.heap.size wr) (Nat.le_refl _) _).cell (by rw [block_add]; exact hbv)).trans hcz
          have x4 : (q : Int) < (vn : Int) := by rw [HVK.out]; omega
          have HBA : Hid (∀ n, Below wr.heap.size wr ((wr.alloc (.cells #[.int .i64 (q : Int), .int .i64 cv] 57)).drewN n)) := Lib.hid (fun n => below_drewN ((Below.refl wr.heap.size wr).alloc (Nat.le_refl _) _) n)
          have HP2 := Lib.hid hp
          have HT2 := Lib.hid hT
          clear htm hT hp i1 i2 s1 hz hIV z1 z2 z3 z4 t1 t2 t3 t4 f1 f2 f3 f4 eA2 eA3
          go_wp2_with fail
          go_quiet (fail)
          go_wp2_with fail
          go_roundw
          case rel => exact ⟨j + 1, by omega, by go_num, by rw [HS1.out], PN.out.go1 HP2.out (HBA.out _), HT2.out.grow (HBA.out _), HO.out.grow (HBA.out _)⟩
          case measure => simp [intOf]; omega
        · obtain rfl : j = ts.length := by omega
          have hsi := HSI.out
          have HPP := Lib.hid hp
          clear hp hT z4 t4
          have FS : Hid (∀ w, Calls Try.prog 45 #[.int .i64 (sumT ts vs ts.length), .int .i64 c1, .int .i64 d2] w fun e w' => e = .returned (.int .i64 U) ∧ Below w.heap.size w w') := Lib.hid (fun w => by have := fx_Shift (sumT ts vs ts.length) c1 d2 w hsi; rw [HU2.out] at this; exact this)
          obtain ⟨R, hR⟩ : ∃ R, reduceW d0 d1 d2 d3 U = R := ⟨_, rfl⟩
          have hR23 : -8388608 ≤ R ∧ R ≤ 8388608 := HB.out (k + 1) R (by rw [HSUCC.out, ← hR]; simp)
          have FR : Hid (∀ w, Calls Try.prog 46 #[wordV d0 d1 d2 d3, .int .i64 U] w fun e w' => e = .returned (.int .i64 R) ∧ Below w.heap.size w w') := Lib.hid (fun w => by have := fx_Reduce d0 d1 d2 d3 U w; rw [hR] at this; exact this)
          have HR := Lib.hid hR
          obtain ⟨fu, hfu⟩ : ∃ fu, fitsW d0 d1 d2 d3 U = fu := ⟨_, rfl⟩
          have FF : Hid (∀ w, Calls Try.prog 29 #[wordV d0 d1 d2 d3, .int .i64 U] w fun e w' => e = .returned (.bool fu) ∧ Below w.heap.size w w') := Lib.hid (fun w => by have := fx_Fits d0 d1 d2 d3 U w; rw [hfu] at this; exact this)
          have HFU := Lib.hid hfu
          have hvl : vs.length < 100000000 := by rw [HVL.out]; omega
          clear hR hfu
          rcases ov with _ | _
          · go_wp2_with (first
              | (go_at_call 45; with_reducible refine (FS.out _).mono ?_; rintro e w4 ⟨rfl, hb4⟩; have hp4 := PN.out.go1 HPP.out hb4; obtain ⟨z1, z2, z3, z4⟩ := PN.out.dat _ hp4; have ho4 := HO.out.grow hb4)
              | (go_at_call 29; with_reducible refine (FF.out _).mono ?_; rintro e w5 ⟨rfl, hb5⟩; have hp5 := PN.out.go1 hp4 hb5; obtain ⟨z1, z2, z3, z4⟩ := PN.out.dat _ hp5; have ho5 := ho4.grow hb5)
              | (go_at_call 46; with_reducible refine (FR.out _).mono ?_; rintro e w6 ⟨rfl, hb6⟩; have hp6 := PN.out.go1 hp5 hb6; have ho6 := ho5.grow hb6; have hs6 := PN.out.lt _ hp6)
              | (at_builtin; refine app_int w6 rfl _ _ rfl (w.heap.size + 1) ho6 rfl rfl hvl hs6 (y := R) ⟨by omega, by omega⟩ ?_; intro v7 w7 ho7 hb7; have hp7 := PN.out.go _ _ hp6 hb7))
            go_roundw
            case rel => exact ⟨k + 1, by omega, by go_num, by rw [HOVER.out, HFU.out]; rfl, by rw [HSUCC.out, HR.out]; exact ho7, hp7⟩
            case measure => simp [intOf]; omega
          · go_wp2_with (first
              | (go_at_call 45; with_reducible refine (FS.out _).mono ?_; rintro e w4 ⟨rfl, hb4⟩; have hp4 := PN.out.go1 HPP.out hb4; obtain ⟨z1, z2, z3, z4⟩ := PN.out.dat _ hp4; have ho4 := HO.out.grow hb4)
              | (go_at_call 46; with_reducible refine (FR.out _).mono ?_; rintro e w6 ⟨rfl, hb6⟩; have hp6 := PN.out.go1 hp4 hb6; have ho6 := ho4.grow hb6; have hs6 := PN.out.lt _ hp6)
              | (at_builtin; refine app_int w6 rfl _ _ rfl (w.heap.size + 1) ho6 rfl rfl hvl hs6 (y := R) ⟨by omega, by omega⟩ ?_; intro v7 w7 ho7 hb7; have hp7 := PN.out.go _ _ hp6 hb7))
            go_roundw
            case rel => exact ⟨k + 1, by omega, by go_num, by rw [HOVER.out]; rfl, by rw [HSUCC.out, HR.out]; exact ho7, hp7⟩
            case measure => simp [intOf]; omega
    · have hkk : k = nn := by omega
      subst hkk
      have HPP := Lib.hid hp
      clear hp
      go_wp2_with fail
      go_ret2
      exact ⟨_, rfl, HO.out.base (Nat.le_succ _), PN.out.old _ HPP.out⟩
end Go.Proofs.Ytodnbekeidbknaa
