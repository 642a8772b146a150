/- The walk of Step of the reference of layer 22, for valid networks, states and inputs. -/
import Derived.Test.YtdmfafbfaelfnaaT5
namespace Go.Proofs.Ytdmfafbfaelfnaa
open Go.RowKit

theorem follow_snoc {nx vs : List Int} {k : Nat} {y : Int} (h : nx[k]? = some y) : (nx.take (k + 1)).map (atF vs) = (nx.take k).map (atF vs) ++ [atF vs y] := by
  rw [take_snoc' h, List.map_append]; rfl
set_option maxRecDepth 100000 in
set_option maxHeartbeats 2000000 in
theorem r22_Step (d0 d1 d2 d3 c0 c1 c2 c3 st out x : Int) (NA XA SA : Option Addr) (nc xc sn sc : Nat) (ns : List (List (Int × Int))) (nx s : List Int) (w : World) (hok : netB d0 d1 d2 d3 c0 c1 c2 c3 st ns nx out = true) (hN : NodesAt w NA ns) (hX : Ints w XA nx) (hS : Ints w SA s)
    (hsn : s.length = sn) (hst : (sn : Int) = st) (hfs : ∀ v ∈ s, fitsW d0 d1 d2 d3 v = true) (hfx : fitsW d0 d1 d2 d3 x = true) (h3 : ∀ ts ∈ ns, ts.length ≤ 9223372036854775807) :
    Calls Try.prog 17 #[netV d0 d1 d2 d3 c0 c1 c2 c3 st NA ns.length nc XA nx.length xc out, .slice SA sn sc, .int .i64 x] w
      (RetStep w (followF nx (valsF d0 d1 d2 d3 c1 ns (x :: s) ns.length)) (atF (valsF d0 d1 d2 d3 c1 ns (x :: s) ns.length) out) (overF d0 d1 d2 d3 c1 ns (x :: s) ns.length)) := by
  subst hst
  obtain ⟨p1, p2, p3, p4, p5, p6, p7, p8, p9⟩ := netB_parts hok
  have hvl := vals_at (x := x) hok (by rw [hsn])
  have hvb : ∀ v ∈ valsF d0 d1 d2 d3 c1 ns (x :: s) ns.length, -8388608 ≤ v ∧ v ≤ 8388608 := fun v hv => fits_23 (valsF_fits p1 (fits_cons hfx hfs) _ v hv)
  have CV : Hid (∀ w1, NodesAt w1 NA ns → Ints w1 XA nx → Ints w1 SA s → Calls Try.prog 33 #[netV d0 d1 d2 d3 c0 c1 c2 c3 sn NA ns.length nc XA nx.length xc out, .slice SA sn sc, .int .i64 x] w1
      fun e w' => ∃ A c, e = .returned (.tuple #[.slice A (1 + sn + ns.length) c, .bool (overF d0 d1 d2 d3 c1 ns (x :: s) ns.length), .int .i64 0]) ∧ Ints w' A (valsF d0 d1 d2 d3 c1 ns (x :: s) ns.length) ∧ Below w1.heap.size w1 w') := fun w1 a b c => by
    have := r22_Values d0 d1 d2 d3 c0 c1 c2 c3 sn out x NA XA SA nc xc sn sc ns nx s w1 hok a b c hsn rfl hfs hfx h3
    refine this.mono ?_
    rintro e w2 ⟨A, c, rfl, hi, hb⟩
    exact ⟨A, c, by rw [hvl, hsn], hi, hb⟩
  obtain ⟨P, HP0, PN0⟩ := netQ_mk w d0 d1 d2 d3 c0 c1 c2 c3 (sn : Int) NA ns ns.length nc XA nx nx.length xc out hN hX
  obtain ⟨q, rfl⟩ : ∃ q : Nat, out = (q : Int) := ⟨out.toNat, by omega⟩
  have HQ : Hid (q < 1 + sn + ns.length) := by show _ < _; omega
  have HVL : Hid ((valsF d0 d1 d2 d3 c1 ns (x :: s) ns.length).length = 1 + sn + ns.length) := by rw [hsn] at hvl; exact hvl
  have HIN : Hid (∀ v ∈ nx, 0 ≤ v ∧ v < ((1 + sn + ns.length : Nat) : Int)) := fun v hv => by have := p7 v hv; push_cast; omega
  obtain ⟨vs, hvs⟩ : ∃ vs, valsF d0 d1 d2 d3 c1 ns (x :: s) ns.length = vs := ⟨_, rfl⟩
  obtain ⟨ov, hov⟩ : ∃ ov, overF d0 d1 d2 d3 c1 ns (x :: s) ns.length = ov := ⟨_, rfl⟩
  rw [hvs] at HVL hvb
  rw [hvs, hov] at CV
  rw [hvs, hov]
  obtain ⟨xn, hxn⟩ : ∃ n, nx.length = n := ⟨_, rfl⟩
  obtain ⟨nn, hnn⟩ : ∃ n, ns.length = n := ⟨_, rfl⟩
  rw [hxn, hnn] at HP0 PN0 CV
  rw [hnn] at HQ HVL HIN
  rw [hxn] at p5
  unfold netV at CV ⊢
  rw [hnn, hxn]
  obtain ⟨vn, hvn⟩ : ∃ vn, 1 + sn + nn = vn := ⟨_, rfl⟩
  rw [hvn] at CV HQ HVL HIN
  have hx64 : xn ≤ 64 := by omega
  have hse : sn = xn := by omega
  subst hse
  have HP := Lib.hid HP0
  have PN := Lib.hid PN0
  have HS := Lib.hid hS
  have HXN := Lib.hid hxn
  have HVB := Lib.hid hvb
  clear HP0 PN0 hnn hxn hN hX hS hfs hfx hsn hvs hov hok p1 p2 p3 p4 p5 p6 p7 p8 p9 h3 hvl hvn hvb
  go_enter Try.func17, Try.ntmps17
  go_wp2_with (first
    | (go_at_call 33; with_reducible refine (CV.out _ (PN.out.nodes _ HP.out) (PN.out.next _ HP.out) (HS.out.grow (PN.out.old _ HP.out))).mono ?_; rintro e w1 ⟨VA, vc, rfl, hi1, hb1⟩; have hp1 := PN.out.go1 HP.out hb1))
  have HP1 := Lib.hid hp1
  have HI1 := Lib.hid hi1
  clear hb1 hp1 hi1
  go_loopw [13, 14] (fun v i wr => ∃ k : Nat, k ≤ sn ∧ i = .int .i64 k ∧ Hid (Own w1.heap.size wr v ((nx.take k).map (atF vs))) ∧ Hid (Below w1.heap.size w1 wr)) (fun _ i _ => sn - (intOf i).toNat)
  case atStart => exact ⟨0, Nat.zero_le _, rfl, Own.nil, Below.refl _ _⟩
  case round =>
    obtain ⟨k, hk, rfl, HO, HB⟩ := hrel
    have hp := PN.out.go1 HP1.out HB.out
    obtain ⟨b1, b2, b3, b4⟩ := PN.out.res _ hp
    have hlw := PN.out.lt _ hp
    have hV := HI1.out.grow HB.out
    by_cases hlt : k < sn
    · obtain ⟨ad, y, rfl, hba, hy, hcy, -, -⟩ := (PN.out.next _ hp).at_ (k := k) (by rw [HXN.out]; exact hlt)
      obtain ⟨v1, v2⟩ := HIN.out y (List.mem_of_getElem? hy)
      obtain ⟨j, rfl⟩ : ∃ j : Nat, y = (j : Int) := ⟨y.toNat, by omega⟩
      obtain ⟨av, z, rfl, hbv, hz, hcz, z1, z2⟩ := hV.at_ (k := j) (by rw [HVL.out]; omega)
      have HS := Lib.hid (follow_snoc (vs := vs) hy)
      rw [atF_nat hz] at HS
      have HIZ : Hid (I64 z) := ⟨z1, z2⟩
      have hlen : ((nx.take k).map (atF vs)).length < 100000000 := by simp; omega
      have x1 : (0 : Int) ≤ (k : Int) := by omega
      have x2 : (k : Int) < (sn : Int) := by omega
      have hbase := HB.out.size
      clear hp hV hy hz z1 z2
      go_wp2_with (at_builtin; refine app_int wr rfl _ _ rfl w1.heap.size HO.out rfl rfl hlen hbase HIZ.out ?_; intro v4 w4 ho4 hb4; have hp4 := PN.out.go1 HP1.out (HB.out.trans hb4); obtain ⟨b1, b2, b3, b4⟩ := PN.out.res _ hp4)
      go_roundw
      case rel => exact ⟨k + 1, by omega, by go_num, by rw [HS.out]; exact ho4, HB.out.trans hb4⟩
      case measure => simp [intOf]; omega
    · have hkk : k = sn := by omega
      subst hkk
      obtain ⟨av, y, rfl, hbv, hyv, hcv, -, -⟩ := hV.at_ (k := q) (by rw [HVL.out]; exact HQ.out)
      have HY : Hid (atF vs (q : Int) = y) := atF_nat hyv
      obtain ⟨A, c, e13, hcap, -⟩ := HO.out.form
      subst e13
      have HFL : Hid ((nx.take k).map (atF vs) = followF nx vs) := by rw [← HXN.out, List.take_length]; rfl
      rw [HFL.out] at HO ⊢
      have x1 : (0 : Int) ≤ (q : Int) := by omega
      have x2 : (q : Int) < (vn : Int) := by have := HQ.out; omega
      clear hp hV hyv hcap
      go_wp2_with fail
      go_quiet (fail)
      go_wp2_with fail
      refine bodyPost_ret (results_tmp4 rfl _ _ _) rfl ?_
      have hb := below_drewN HB.out
      obtain ⟨A', c', e', -, hi⟩ := HO.out.form
      injection e' with e1 e2 e3
      subst e1
      exact ⟨A, c, by rw [HY.out]; rfl, hi.grow (below_drewN (Below.refl _ _) _), fun _ a ha => by subst ha; have := (HO.out.1.lt a.block rfl).1; have := PN.out.lt _ HP1.out; omega, PN.out.old _ (PN.out.go1 HP1.out (hb _))⟩
end Go.Proofs.Ytdmfafbfaelfnaa
