/- Several texts in one: Tp T9 Tk Tq. -/
import Derived.Test.YtgabfdappeakiaaPc
import Derived.Test.YtgabfdappeakiaaPs
import Derived.Test.YtgabfdappeakiaaTj
section
/- SameNets of the reference: two networks in the heap with the same plain data. -/
set_option linter.unusedVariables false
set_option linter.unusedSimpArgs false
namespace Go.Proofs.Ytgabfdappeakiaa
open Go.RowKit

set_option maxRecDepth 100000 in
set_option maxHeartbeats 4000000 in
theorem r22_SameNets (n : NetD) (NA XA NB XB : Option Addr) (nc xc mc yc : Nat) (w : World) (hA : NetAt w n NA XA) (hB : NetAt w n NB XB) (hx : n.nx.length ≤ 1000000) :
    Calls Try.prog 22 #[n.val NA nc XA xc, n.val NB mc XB yc] w (fun e w' => e = .returned (.bool true) ∧ Below w.heap.size w w') := by
  obtain ⟨d0, d1, d2, d3, c0, c1, c2, c3, st, out, ns, nx⟩ := n
  have HN1 := Lib.hid hA.nodes
  have HX1 := Lib.hid hA.next
  have HN2 := Lib.hid hB.nodes
  have HX2 := Lib.hid hB.next
  have h1 := hA.n1
  have h3 := Lib.hid hA.n3
  show Calls Try.prog 22 #[netV d0 d1 d2 d3 c0 c1 c2 c3 st NA ns.length nc XA nx.length xc out, netV d0 d1 d2 d3 c0 c1 c2 c3 st NB ns.length mc XB nx.length yc out] w _
  obtain ⟨xn, hxn⟩ : ∃ n, nx.length = n := ⟨_, rfl⟩
  obtain ⟨nn, hnn⟩ : ∃ n, ns.length = n := ⟨_, rfl⟩
  have hx' : nx.length ≤ 1000000 := hx
  have h1' : ns.length ≤ 9223372036854775807 := h1
  clear hx h1 hA hB
  rw [hxn] at hx' ⊢
  rw [hnn] at h1' ⊢
  have HXN := Lib.hid hxn
  have HNN := Lib.hid hnn
  clear hxn hnn
  obtain ⟨K, hK⟩ : ∃ K : World → Prop, K = fun w' => Below w.heap.size w w' ∧ Box w' w.heap.size [.int .i64 d0, .int .i64 d1, .int .i64 d2, .int .i64 d3, .int .i64 c0, .int .i64 c1, .int .i64 c2, .int .i64 c3, .int .i64 st, .slice NA nn nc, .slice XA xn xc, .int .i64 out] ∧ Box w' (w.heap.size + 1) [.int .i64 d0, .int .i64 d1, .int .i64 d2, .int .i64 d3, .int .i64 c0, .int .i64 c1, .int .i64 c2, .int .i64 c3, .int .i64 st, .slice NB nn mc, .slice XB xn yc, .int .i64 out] := ⟨_, rfl⟩
  have K0 : K ((w.alloc (.cells #[.int .i64 d0, .int .i64 d1, .int .i64 d2, .int .i64 d3, .int .i64 c0, .int .i64 c1, .int .i64 c2, .int .i64 c3, .int .i64 st, .slice NA nn nc, .slice XA xn xc, .int .i64 out] 31)).alloc (.cells #[.int .i64 d0, .int .i64 d1, .int .i64 d2, .int .i64 d3, .int .i64 c0, .int .i64 c1, .int .i64 c2, .int .i64 c3, .int .i64 st, .slice NB nn mc, .slice XB xn yc, .int .i64 out] 31)) := by
    rw [hK]
    exact ⟨((Below.refl _ _).alloc (Nat.le_refl _) _).alloc (by simp) _, (Box.new rfl).alloc _, Box.new (by simp)⟩
  have KG : Hid (∀ w1 w2, K w1 → Below w1.heap.size w1 w2 → K w2) := by
    show ∀ w1 w2, K w1 → Below w1.heap.size w1 w2 → K w2
    rw [hK]
    exact fun w1 w2 h1 h2 => ⟨below_then h1.1 h2, h1.2.1.keep h2, h1.2.2.keep h2⟩
  have KB : Hid (∀ w1, K w1 → Below w.heap.size w w1) := by
    show ∀ w1, K w1 → Below w.heap.size w w1
    rw [hK]; exact fun w1 h => h.1
  have K12 : Hid (∀ w1, K w1 → (w1.cell? ⟨w.heap.size, 0, none⟩ = some (.int .i64 d0) ∧ w1.cell? ⟨w.heap.size, 1, none⟩ = some (.int .i64 d1) ∧ w1.cell? ⟨w.heap.size, 2, none⟩ = some (.int .i64 d2) ∧ w1.cell? ⟨w.heap.size, 3, none⟩ = some (.int .i64 d3)) ∧
      (w1.cell? ⟨w.heap.size, 4, none⟩ = some (.int .i64 c0) ∧ w1.cell? ⟨w.heap.size, 5, none⟩ = some (.int .i64 c1) ∧ w1.cell? ⟨w.heap.size, 6, none⟩ = some (.int .i64 c2) ∧ w1.cell? ⟨w.heap.size, 7, none⟩ = some (.int .i64 c3)) ∧
      w1.cell? ⟨w.heap.size, 8, none⟩ = some (.int .i64 st) ∧ w1.cell? ⟨w.heap.size, 9, none⟩ = some (.slice NA nn nc) ∧ w1.cell? ⟨w.heap.size, 10, none⟩ = some (.slice XA xn xc) ∧ w1.cell? ⟨w.heap.size, 11, none⟩ = some (.int .i64 out)) := by
    show ∀ w1, K w1 → _
    rw [hK]
    exact fun w1 h => ⟨⟨h.2.1.2.1 0, h.2.1.2.1 1, h.2.1.2.1 2, h.2.1.2.1 3⟩, ⟨h.2.1.2.1 4, h.2.1.2.1 5, h.2.1.2.1 6, h.2.1.2.1 7⟩, h.2.1.2.1 8, h.2.1.2.1 9, h.2.1.2.1 10, h.2.1.2.1 11⟩
  have L12 : Hid (∀ w1, K w1 → (w1.cell? ⟨w.heap.size + 1, 0, none⟩ = some (.int .i64 d0) ∧ w1.cell? ⟨w.heap.size + 1, 1, none⟩ = some (.int .i64 d1) ∧ w1.cell? ⟨w.heap.size + 1, 2, none⟩ = some (.int .i64 d2) ∧ w1.cell? ⟨w.heap.size + 1, 3, none⟩ = some (.int .i64 d3)) ∧
      (w1.cell? ⟨w.heap.size + 1, 4, none⟩ = some (.int .i64 c0) ∧ w1.cell? ⟨w.heap.size + 1, 5, none⟩ = some (.int .i64 c1) ∧ w1.cell? ⟨w.heap.size + 1, 6, none⟩ = some (.int .i64 c2) ∧ w1.cell? ⟨w.heap.size + 1, 7, none⟩ = some (.int .i64 c3)) ∧
      w1.cell? ⟨w.heap.size + 1, 8, none⟩ = some (.int .i64 st) ∧ w1.cell? ⟨w.heap.size + 1, 9, none⟩ = some (.slice NB nn mc) ∧ w1.cell? ⟨w.heap.size + 1, 10, none⟩ = some (.slice XB xn yc) ∧ w1.cell? ⟨w.heap.size + 1, 11, none⟩ = some (.int .i64 out)) := by
    show ∀ w1, K w1 → _
    rw [hK]
    exact fun w1 h => ⟨⟨h.2.2.2.1 0, h.2.2.2.1 1, h.2.2.2.1 2, h.2.2.2.1 3⟩, ⟨h.2.2.2.1 4, h.2.2.2.1 5, h.2.2.2.1 6, h.2.2.2.1 7⟩, h.2.2.2.1 8, h.2.2.2.1 9, h.2.2.2.1 10, h.2.2.2.1 11⟩
  have KS : Hid (∀ w1, K w1 → w.heap.size + 1 < w1.heap.size) := by
    show ∀ w1, K w1 → _
    rw [hK]; exact fun w1 h => h.2.2.1
  clear hK
  unfold netV
  go_enter Try.func22, Try.ntmps22
  go_upto_region 1 with fail
  generalize ((w.alloc (.cells #[.int .i64 d0, .int .i64 d1, .int .i64 d2, .int .i64 d3, .int .i64 c0, .int .i64 c1, .int .i64 c2, .int .i64 c3, .int .i64 st, .slice NA nn nc, .slice XA xn xc, .int .i64 out] 31)).alloc (.cells #[.int .i64 d0, .int .i64 d1, .int .i64 d2, .int .i64 d3, .int .i64 c0, .int .i64 c1, .int .i64 c2, .int .i64 c3, .int .i64 st, .slice NB nn mc, .slice XB xn yc, .int .i64 out] 31)) = W0 at K0 ⊢
  obtain ⟨⟨a1, a2, a3, a4⟩, ⟨a5, a6, a7, a8⟩, a9, a10, a11, a12⟩ := K12.out _ K0
  obtain ⟨⟨b1, b2, b3, b4⟩, ⟨b5, b6, b7, b8⟩, b9, b10, b11, b12⟩ := L12.out _ K0
  go_wp2_with (go_at_call 9; refine (rf_SameN XA XB nx nx xc yc xn xn _ HXN.out HXN.out hx' rfl (HX1.out.grow (KB.out _ K0)) (HX2.out.grow (KB.out _ K0))).mono ?_; rintro e w1 ⟨rfl, hb1⟩; have K1 := KG.out _ _ K0 hb1; clear a1 a2 a3 a4 a5 a6 a7 a8 a9 a10 a11 a12 b1 b2 b3 b4 b5 b6 b7 b8 b9 b10 b11 b12; obtain ⟨⟨a1, a2, a3, a4⟩, ⟨a5, a6, a7, a8⟩, a9, a10, a11, a12⟩ := K12.out _ K1; obtain ⟨⟨b1, b2, b3, b4⟩, ⟨b5, b6, b7, b8⟩, b9, b10, b11, b12⟩ := L12.out _ K1)
  have HK1 := Lib.hid K1
  clear a1 a2 a3 a4 a5 a6 a7 a8 a9 a10 a11 a12 b1 b2 b3 b4 b5 b6 b7 b8 b9 b10 b11 b12 K0 K1 hb1
  go_loopw [5, 6] (fun i _ wr => ∃ k : Nat, k ≤ nn ∧ i = .int .i64 k ∧ K wr) (fun i _ _ => nn - (intOf i).toNat)
  case atStart => exact ⟨0, Nat.zero_le _, rfl, HK1.out⟩
  case round =>
    obtain ⟨k, hk, rfl, hp⟩ := hrel
    obtain ⟨-, -, -, a10, -, -⟩ := K12.out _ hp
    obtain ⟨-, -, -, b10, -, -⟩ := L12.out _ hp
    by_cases hlt : k < nn
    · obtain ⟨ts, hts⟩ : ∃ ts, ns[k]? = some ts := ⟨_, List.getElem?_eq_getElem (by rw [HNN.out]; exact hlt)⟩
      obtain ⟨ad, B, bc, rfl, hba, cn, hT⟩ := (HN1.out.grow (KB.out _ hp)) k ts hts
      obtain ⟨bd, C, cc, rfl, hbb, dn, hU⟩ := (HN2.out.grow (KB.out _ hp)) k ts hts
      have H3t := h3.out ts (List.mem_of_getElem? hts)
      have HPP := Lib.hid hp
      have HTS := Lib.hid hts
      have y1 : (0 : Int) ≤ (k : Int) := by omega
      have y2 : (k : Int) < (nn : Int) := by omega
      have hsz := KS.out _ hp
      have hbk := KB.out _ hp
      have hbz := hbk.size
      have xa : ∀ n : Ext wr, n.to.cell? ⟨w.heap.size, 9, none⟩ = some (.slice (some ad) nn nc) := fun n => (n.cell _ (by show w.heap.size < _; omega)).trans a10
      have xb : ∀ n : Ext wr, n.to.cell? ⟨w.heap.size + 1, 9, none⟩ = some (.slice (some bd) nn mc) := fun n => (n.cell _ hsz).trans b10
      have xc : ∀ n : Ext wr, n.to.cell? (ad.add k) = some (.slice B ts.length bc) := fun n => (n.cell _ (by rw [block_add]; omega)).trans cn
      have xd : ∀ n : Ext wr, n.to.cell? (bd.add k) = some (.slice C ts.length cc) := fun n => (n.cell _ (by rw [block_add]; omega)).trans dn
      have XA := Lib.hid xa
      have XB := Lib.hid xb
      have XC := Lib.hid xc
      have XD := Lib.hid xd
      clear hp hT hU hts hbk xa xb xc xd
      go_wp2_with fail
      have xa := XA.out
      have xb := XB.out
      have xc := XC.out
      have xd := XD.out
      clear a10 b10 cn dn
      refine wp_region_ext (by kernel_rfl) (by kernel_rfl) ?_
      repeat (go_big_quiet_step (fail))
      refine wpQuiet_nil ?_
      rintro _ ⟨⟨w6, hb6⟩, rfl⟩
      clear xa xb xc xd XA XB XC XD hba hbb hsz hbz
      have HP6 := Lib.hid (KG.out _ _ HPP.out hb6)
      go_wp2_with fail
      clear hb6
      go_loopw [6] (fun i wr => ∃ j : Nat, j ≤ ts.length ∧ i = .int .i64 j ∧ K wr) (fun i _ => ts.length - (intOf i).toNat)
      case atStart => exact ⟨0, Nat.zero_le _, rfl, HP6.out⟩
      case round =>
        obtain ⟨j, hj, rfl, hp⟩ := hrel
        obtain ⟨-, -, -, a10, -, -⟩ := K12.out _ hp
        obtain ⟨-, -, -, b10, -, -⟩ := L12.out _ hp
        obtain ⟨_, B', bc', e, hba, cn, hT⟩ := (HN1.out.grow (KB.out _ hp)) k ts HTS.out
        injection e with e
        subst e
        obtain ⟨_, C', cc', e, hbb, dn, hU⟩ := (HN2.out.grow (KB.out _ hp)) k ts HTS.out
        injection e with e
        subst e
        by_cases hltj : j < ts.length
        · obtain ⟨tm, htm⟩ : ∃ tm, ts[j]? = some tm := ⟨_, List.getElem?_eq_getElem hltj⟩
          obtain ⟨a2, rfl, hb2, ct0, ct1, i1, i2⟩ := hT j tm htm
          obtain ⟨b2, rfl, hc2, dt0, dt1, -, -⟩ := hU j tm htm
          have x2 : (0 : Int) ≤ (j : Int) := by omega
          have x3 : (j : Int) < (ts.length : Int) := by omega
          have HP2 := Lib.hid hp
          have hsz := KS.out _ hp
          have hbk := KB.out _ hp
          have hbz := hbk.size
          have xa : ∀ n : Ext wr, n.to.cell? ⟨w.heap.size, 9, none⟩ = some (.slice (some ad) nn nc) := fun n => (n.cell _ (by show w.heap.size < _; omega)).trans a10
          have xb : ∀ n : Ext wr, n.to.cell? ⟨w.heap.size + 1, 9, none⟩ = some (.slice (some bd) nn mc) := fun n => (n.cell _ hsz).trans b10
          have xc : ∀ n : Ext wr, n.to.cell? (ad.add k) = some (.slice (some a2) ts.length bc') := fun n => (n.cell _ (by rw [block_add]; omega)).trans cn
          have xd : ∀ n : Ext wr, n.to.cell? (bd.add k) = some (.slice (some b2) ts.length cc') := fun n => (n.cell _ (by rw [block_add]; omega)).trans dn
          have xe : ∀ n : Ext wr, n.to.cell? (a2.add (j * 2)) = some (.int .i64 tm.1) := fun n => (n.cell _ (by rw [block_add]; omega)).trans ct0
          have xf : ∀ n : Ext wr, n.to.cell? ⟨(a2.add (j * 2)).block, (a2.add (j * 2)).off + 1, none⟩ = some (.int .i64 tm.2) := fun n => (n.cell _ (by show (a2.add _).block < _; rw [block_add]; omega)).trans ct1
          have xg : ∀ n : Ext wr, n.to.cell? (b2.add (j * 2)) = some (.int .i64 tm.1) := fun n => (n.cell _ (by rw [block_add]; omega)).trans dt0
          have xh : ∀ n : Ext wr, n.to.cell? ⟨(b2.add (j * 2)).block, (b2.add (j * 2)).off + 1, none⟩ = some (.int .i64 tm.2) := fun n => (n.cell _ (by show (b2.add _).block < _; rw [block_add]; omega)).trans dt1
          have XA := Lib.hid xa
          have XB := Lib.hid xb
          have XC := Lib.hid xc
          have XD := Lib.hid xd
          have XE := Lib.hid xe
          have XF := Lib.hid xf
          have XG := Lib.hid xg
          have XH := Lib.hid xh
          clear htm hT hU hp hbk xa xb xc xd xe xf xg xh
          go_wp2_with fail
          have xa := XA.out
          have xb := XB.out
          have xc := XC.out
          have xd := XD.out
          have xe := XE.out
          have xf := XF.out
          have xg := XG.out
          have xh := XH.out
          clear a10 b10 cn dn ct0 ct1 dt0 dt1
          refine wp_region_ext (by kernel_rfl) (by kernel_rfl) ?_
          repeat (go_big_quiet_step (fail))
          refine wpQuiet_nil ?_
          rintro _ ⟨⟨w7, hb7⟩, rfl⟩
          clear xa xb xc xd xe xf xg xh XA XB XC XD XE XF XG XH
          have HP7 := Lib.hid (KG.out _ _ HP2.out hb7)
          go_wp2_with fail
          go_roundw
          case rel => exact ⟨j + 1, by omega, by go_num, HP7.out⟩
          case measure => simp [intOf]; omega
        · obtain rfl : j = ts.length := by omega
          have HP2 := Lib.hid hp
          clear hT hU hp
          go_wp2
          go_roundw
          case rel => exact ⟨k + 1, by omega, by go_num, HP2.out⟩
          case measure => simp [intOf]; omega
    · obtain rfl : k = nn := by omega
      have HPP := Lib.hid hp
      clear hp
      go_wp2_with fail
      go_ret
      exact ⟨rfl, KB.out _ HPP.out⟩
end Go.Proofs.Ytgabfdappeakiaa
end
section
/- The walk of Valid of the reference of layer 42. -/
set_option linter.unusedVariables false
set_option linter.unusedSimpArgs false
namespace Go.Proofs.Ytgabfdappeakiaa
open Go.RowKit

set_option maxRecDepth 100000 in
set_option maxHeartbeats 4000000 in
theorem r42_Valid (u : StrA) (w : World) (hu : StrAt w u) : Calls Try.prog 30 #[u.val] w (BoolBw w (decide u.d.Good)) := by
  have HU := Lib.hid hu
  have hbx := StrBox.mk w u
  have HBX := Lib.hid hbx
  have hal := (Below.refl w.heap.size w).alloc (Nat.le_refl _) (.cells u.vals 39)
  have HAL := Lib.hid hal
  obtain ⟨vb, hvb⟩ : ∃ b, u.d.net.ok = b := ⟨_, rfl⟩
  obtain ⟨sb, hsb⟩ : ∃ b, u.d.net.fit u.d.s = b := ⟨_, rfl⟩
  obtain ⟨ob, hob⟩ : ∃ b, u.d.old.ok = b := ⟨_, rfl⟩
  obtain ⟨fb, hfb⟩ : ∃ b, u.d.old.fit u.d.f = b := ⟨_, rfl⟩
  obtain ⟨zb, hzb⟩ : ∃ b, u.d.old.isZero = b := ⟨_, rfl⟩
  obtain ⟨i1, hi1⟩ : ∃ b, inB u.d.ev 0 1099511627776 = b := ⟨_, rfl⟩
  obtain ⟨i2, hi2⟩ : ∃ b, inB u.d.fade 0 4096 = b := ⟨_, rfl⟩
  obtain ⟨i3, hi3⟩ : ∃ b, inB u.d.left 0 u.d.fade = b := ⟨_, rfl⟩
  have K1 : Hid (i1 = true ↔ (0 ≤ u.d.ev ∧ u.d.ev ≤ 1099511627776)) := by rw [← hi1]; exact inB_iff
  have K2 : Hid (i2 = true ↔ (0 ≤ u.d.fade ∧ u.d.fade ≤ 4096)) := by rw [← hi2]; exact inB_iff
  have K3 : Hid (i3 = true ↔ (0 ≤ u.d.left ∧ u.d.left ≤ u.d.fade)) := by rw [← hi3]; exact inB_iff
  have I1 : Hid (∀ w, Calls Try.prog 32 #[.int .i64 u.d.ev, .int .i64 0, .int .i64 1099511627776] w fun e w' => e = .returned (.bool i1) ∧ w = w') := fun w => by have := rf_In u.d.ev 0 1099511627776 w; rw [hi1] at this; exact this
  have I2 : Hid (∀ w, Calls Try.prog 32 #[.int .i64 u.d.fade, .int .i64 0, .int .i64 4096] w fun e w' => e = .returned (.bool i2) ∧ w = w') := fun w => by have := rf_In u.d.fade 0 4096 w; rw [hi2] at this; exact this
  have I3 : Hid (∀ w, Calls Try.prog 32 #[.int .i64 u.d.left, .int .i64 0, .int .i64 u.d.fade] w fun e w' => e = .returned (.bool i3) ∧ w = w') := fun w => by have := rf_In u.d.left 0 u.d.fade w; rw [hi3] at this; exact this
  have CV : Hid (∀ w1, Below w.heap.size w w1 → Calls Try.prog 27 #[u.d.net.val u.NA u.nc u.XA u.xc] w1 fun e w' => e = .returned (.bool vb) ∧ Below w1.heap.size w1 w') := fun w1 hb => by
    have h := hu.net.grow hb
    have := r22_Valid u.d.net.d0 u.d.net.d1 u.d.net.d2 u.d.net.d3 u.d.net.c0 u.d.net.c1 u.d.net.c2 u.d.net.c3 u.d.net.st u.d.net.out u.NA u.XA u.nc u.xc u.d.net.ns u.d.net.nx w1 h.nodes h.next h.n1 h.n2 h.n3 h.st
    rw [show netB _ _ _ _ _ _ _ _ _ _ _ _ = vb from hvb] at this; exact this
  have CO : Hid (∀ w1, Below w.heap.size w w1 → Calls Try.prog 27 #[u.d.old.val u.MA u.mc u.YA u.yc] w1 fun e w' => e = .returned (.bool ob) ∧ Below w1.heap.size w1 w') := fun w1 hb => by
    have h := hu.old.grow hb
    have := r22_Valid u.d.old.d0 u.d.old.d1 u.d.old.d2 u.d.old.d3 u.d.old.c0 u.d.old.c1 u.d.old.c2 u.d.old.c3 u.d.old.st u.d.old.out u.MA u.YA u.mc u.yc u.d.old.ns u.d.old.nx w1 h.nodes h.next h.n1 h.n2 h.n3 h.st
    rw [show netB _ _ _ _ _ _ _ _ _ _ _ _ = ob from hob] at this; exact this
  have CS : Hid (∀ w1, Below w.heap.size w w1 → Calls Try.prog 31 #[wordV u.d.net.d0 u.d.net.d1 u.d.net.d2 u.d.net.d3, .slice u.SA u.d.s.length u.sc] w1 fun e w' => e = .returned (.bool sb) ∧ Below w1.heap.size w1 w') := fun w1 hb => by
    have := rf_Words u.d.net.d0 u.d.net.d1 u.d.net.d2 u.d.net.d3 u.SA u.d.s u.sc w1 hu.n1 (hu.s.grow hb)
    rw [show wordsB _ _ _ _ _ = sb from hsb] at this; exact this
  have CF : Hid (∀ w1 a0 a1 a2 a3, Below w.heap.size w w1 → u.d.old.d0 = a0 → u.d.old.d1 = a1 → u.d.old.d2 = a2 → u.d.old.d3 = a3 → Calls Try.prog 31 #[.agg #[.int .i64 a0, .int .i64 a1, .int .i64 a2, .int .i64 a3], .slice u.FA u.d.f.length u.fc] w1 fun e w' => e = .returned (.bool fb) ∧ Below w1.heap.size w1 w') := fun w1 a0 a1 a2 a3 hb e0 e1 e2 e3 => by
    subst e0 e1 e2 e3
    have := rf_Words u.d.old.d0 u.d.old.d1 u.d.old.d2 u.d.old.d3 u.FA u.d.f u.fc w1 hu.n2 (hu.f.grow hb)
    rw [show wordsB _ _ _ _ _ = fb from hfb] at this; exact this
  have CZ : Hid (∀ w1, Calls Try.prog 48 #[u.d.old.val u.MA u.mc u.YA u.yc] w1 fun e w' => e = .returned (.bool zb) ∧ Below w1.heap.size w1 w') := fun w1 => by
    have := r42_zero u.d.old.d0 u.d.old.d1 u.d.old.d2 u.d.old.d3 u.d.old.c0 u.d.old.c1 u.d.old.c2 u.d.old.c3 u.d.old.st u.d.old.out u.MA u.YA u.d.old.ns.length u.mc u.d.old.nx.length u.yc w1
    rw [show decide _ = zb from hzb] at this; exact this
  have HVB := Lib.hid hvb
  have HSB := Lib.hid hsb
  have HOB := Lib.hid hob
  have HFB := Lib.hid hfb
  have HZB := Lib.hid hzb
  clear hu hvb hsb hob hfb hzb hbx hal
  unfold NetD.val netV at CV CO CZ
  unfold StrA.val StrA.vals at *
  have hcase : ((u.d.left == 0) = true ∧ u.d.left = 0) ∨ ((u.d.left == 0) = false ∧ u.d.left ≠ 0) := by
    by_cases h : u.d.left = 0
    · left; exact ⟨by rw [h]; rfl, h⟩
    · right; exact ⟨by simpa using h, h⟩
  have HC := Lib.hid hcase
  clear hcase hi1 hi2 hi3
  rcases vb with _ | _
  · go_enter Try.func30, Try.ntmps30
    go_wp2_with (first
      | (go_at_call 27; with_reducible refine (CV.out _ HAL.out).mono ?_; rintro e w1 ⟨rfl, hb1⟩))
    go_ret
    exact ⟨ret_bool (decide_eq_false (fun h => by have := h.1; rw [HVB.out] at this; cases this)).symm, below_then HAL.out hb1⟩
  go_enter Try.func30, Try.ntmps30
  go_wp2_with (first
      | (go_at_call 27; with_reducible refine (CV.out _ HAL.out).mono ?_; rintro e w1 ⟨rfl, hb1⟩; have hw1 := below_then HAL.out hb1; have bx1 := HBX.out.keep hb1; obtain ⟨⟨a1, a2, a3, a4⟩, ⟨a5, a6, a7, a8⟩, a9, a10, a11, a12⟩ := bx1.net; obtain ⟨r1, r2, r3, r4, r5⟩ := bx1.rest)
      | (go_at_call 31; with_reducible refine (CS.out _ hw1).mono ?_; rintro e w2 ⟨rfl, hb2⟩; have hw2 := below_then hw1 hb2; have bx2 := bx1.keep hb2; obtain ⟨⟨a1, a2, a3, a4⟩, ⟨a5, a6, a7, a8⟩, a9, a10, a11, a12⟩ := bx2.net; obtain ⟨r1, r2, r3, r4, r5⟩ := bx2.rest; obtain ⟨⟨o1, o2, o3, o4⟩, ⟨o5, o6, o7, o8⟩, o9, o10, o11, o12⟩ := bx2.old)
      | (go_at_call 32; with_reducible refine (I1.out _).mono ?_; rintro e w3 ⟨rfl, rfl⟩)
      | (go_at_call 32; with_reducible refine (I2.out _).mono ?_; rintro e w3 ⟨rfl, rfl⟩)
      | (go_at_call 32; with_reducible refine (I3.out _).mono ?_; rintro e w3 ⟨rfl, rfl⟩)
      | (go_at_call 48; with_reducible refine (CZ.out _).mono ?_; rintro e w3 ⟨rfl, hb3⟩; have hw3 := below_then hw2 hb3; have bx3 := bx2.keep hb3; obtain ⟨r1, r2, r3, r4, r5⟩ := bx3.rest)
      | (go_at_call 27; with_reducible refine (CO.out _ hw2).mono ?_; rintro e w3 ⟨rfl, hb3⟩; have hw3 := below_then hw2 hb3; have bx3 := bx2.keep hb3; obtain ⟨r1, r2, r3, r4, r5⟩ := bx3.rest; obtain ⟨⟨a1, a2, a3, a4⟩, ⟨a5, a6, a7, a8⟩, a9, a10, a11, a12⟩ := bx3.net; obtain ⟨⟨o1, o2, o3, o4⟩, ⟨o5, o6, o7, o8⟩, o9, o10, o11, o12⟩ := bx3.old)
      | (go_at_call 31; with_reducible refine (CF.out _ _ _ _ _ hw3 (by first | rfl | assumption) (by first | rfl | assumption) (by first | rfl | assumption) (by first | rfl | assumption)).mono ?_; rintro e w4 ⟨rfl, hb4⟩; have hw4 := below_then hw3 hb4))
  all_goals
    go_ret
    refine ⟨ret_bool (bool_dec ?_), by first | exact hw4 | exact hw3 | exact hw2 | exact hw1⟩
    have q1 := HVB.out
    have q2 := HSB.out
    have q3 := HOB.out
    have q4 := HFB.out
    have q5 := HZB.out
    have k1 := K1.out
    have k2 := K2.out
    have k3 := K3.out
    unfold StrD.Good NetD.same NetD.state
    simp only [q1, q2, q3, q4, q5, Bool.and_eq_true, beq_iff_eq, decide_eq_true_eq, Bool.false_eq_true, true_and, false_and, and_false, and_true, or_false, false_or, iff_true, iff_false, true_iff, false_iff, not_false_eq_true]
    cases zb <;> cases ob <;> cases fb <;> cases sb <;> cases i1 <;> cases i2 <;> cases i3 <;> first | contradiction | skip
    all_goals simp only [Bool.false_eq_true, true_and, false_and, and_false, and_true, or_false, false_or, not_false_eq_true, iff_true, iff_false, true_iff, false_iff] at k1 k2 k3 ⊢
    all_goals (have hc := HC.out; rcases hc with ⟨c1, c2⟩ | ⟨c1, c2⟩ <;> first | omega | (exfalso; simp_all; done) | trace_state)
end Go.Proofs.Ytgabfdappeakiaa
end
section
/- The errors of Feed of the reference of layer 42. -/
set_option linter.unusedVariables false
set_option linter.unusedSimpArgs false
namespace Go.Proofs.Ytgabfdappeakiaa
open Go.RowKit

/-- A call hands back a stream, outputs and an error, in memory of whomever. -/
def RetFeedR (w : World) (d : StrD) (l : List Int) (E : Int) (e : Ending) (w' : World) : Prop := ∃ (u : StrA) (A : Option Addr) (c : Nat), e = .returned (.tuple #[u.v, .slice A l.length c, .int .i64 E]) ∧ u.d = d ∧ StrAt w' u ∧ Ints w' A l ∧ Below w.heap.size w w'
/-- The same load behind a guard. -/
theorem ld_evnetW {ops : Array Oper} {rest : List Oper} {o : Oper} {a : Act} {Q : Exit → Act → World → Prop} {w : World} {e : EvA} {g : Nat} (hb : EvBox w g e) (hw : Region.wanted o (yielded ops a.tmps) = true) (x : Operand) (ho : o.op = .load 31 x) (hx : a.eval x = .pointer (some ⟨g, 2, none⟩)) (h : wpList Try.prog ops Q rest (a.put o.dst (.agg e.netL.toArray)) w) : wpList Try.prog ops Q (o :: rest) a w := by
  obtain ⟨d, h1, h2⟩ := row_net
  exact BigFrame.wpList_want hw fun K hK => wp_load_mid _ x ho g 2 hx e.netL d (Box.range hb (evnet_in e)) h1 h2 size_net (hK _ _ h)
set_option maxRecDepth 100000 in
set_option maxHeartbeats 4000000 in
theorem r42_Feed_no1 (u : StrA) (e : EvA) (w : World) (hu : StrAt w u) (he : EvAt w e) (hne : u.d.feedE e ≠ 0) (hcase : ¬ u.d.Good ∨ e.kind ≠ 2) : Calls Try.prog 15 #[u.v, e.v] w (RetFeedR w (u.d.feedD e) (u.d.feedO e) (u.d.feedE e)) := by
  by_cases hg : ¬ u.d.Good
  · have CV : Hid (∀ w1, Below w.heap.size w w1 → Calls Try.prog 30 #[u.v] w1 fun e1 w' => e1 = .returned (.bool false) ∧ Below w1.heap.size w1 w') := fun w1 hb => by
      have := r42_Valid u w1 (hu.grow hb)
      rw [decide_eq_false hg] at this; exact this
    have HE : Hid (u.d.feedE e = 2) := by show _ = _; unfold StrD.feedE; rw [if_neg hg]
    rw [HE.out]
    clear hu he hg hne
    go_enter Try.func15, Try.ntmps15
    go_upto_region 1 with fail
    obtain ⟨bx0, be0, bz0, hb0, hs0⟩ := entry3 w u e _ rfl
    change Code.wp _ _ _ _ (((w.alloc (.cells u.cells.toArray 39)).alloc (.cells e.cells.toArray 33)).alloc (.cells StrA.zero.cells.toArray 39))
    generalize (((w.alloc (.cells u.cells.toArray 39)).alloc (.cells e.cells.toArray 33)).alloc (.cells StrA.zero.cells.toArray 39)) = W0 at bx0 be0 bz0 hb0 hs0 ⊢
    have BX0 := Lib.hid bx0
    have BE0 := Lib.hid be0
    have BZ0 := Lib.hid bz0
    have HB0 := Lib.hid hb0
    clear bx0 be0 bz0 hb0
    go_wp2_with (first
      | (refine ld_str BX0.out rfl _ rfl rfl ?_)
      | (go_at_call 30; (with_reducible refine (CV.out _ HB0.out).mono ?_); rintro e1 w1 ⟨rfl, hb1⟩; have bx1 := BX0.out.keep hb1; have be1 := BE0.out.keep hb1; have bz1 := BZ0.out.keep hb1; have hw1 := below_then HB0.out hb1; have hs1 := hb1.size; obtain ⟨⟨a1, a2, a3, a4⟩, ⟨a5, a6, a7, a8⟩, a9, a10, a11, a12⟩ := bx1.net; obtain ⟨r1, r2, r3, r4, r5⟩ := bx1.rest; obtain ⟨v1, v2, ⟨v3, v4, v5, v6⟩, v7, v8⟩ := be1.c)
      | (refine st_str bz1 (u' := StrA.zero) rfl _ _ rfl rfl rfl ?_; intro W9 bz9 pg9; have hw9 := put_facts hw1 (by omega) pg9))
    have hres := res_str bz9
    refine bodyPost_ret (results_ctt rfl _ _ _ rfl hres) rfl ?_
    unfold StrD.feedD StrD.feedO
    rw [HE.out]
    exact ⟨StrA.zero, none, 0, rfl, rfl, StrF.zero (b := 0) |>.at, Ints.nil, hw9⟩
  have hg := Classical.not_not.1 hg
  have CV : Hid (∀ w1, Below w.heap.size w w1 → Calls Try.prog 30 #[u.v] w1 fun e1 w' => e1 = .returned (.bool true) ∧ Below w1.heap.size w1 w') := fun w1 hb => by
    have := r42_Valid u w1 (hu.grow hb)
    rw [decide_eq_true hg] at this; exact this
  have HEE : Hid (u.d.feedE e = if e.kind = 1 then u.d.sampE e.x else if e.kind = 2 then u.d.chE e else 1) := by show _ = _; unfold StrD.feedE; rw [if_pos hg]
  by_cases hk1 : e.kind = 1
  · have HK := Lib.hid hk1
    by_cases hlong : e.x.length ≤ 4096
    · have hlo : (e.x.length : Int) ≤ 4096 := by omega
      have hfit : u.d.net.fit e.x = false := by
        rw [HEE.out, if_pos hk1] at hne
        unfold StrD.sampE at hne
        rw [if_pos hlong] at hne
        cases h : u.d.net.fit e.x with
        | false => rfl
        | true => rw [h] at hne; exact absurd rfl hne
      have CW : Hid (∀ w1, Below w.heap.size w w1 → Calls Try.prog 31 #[wordV u.d.net.d0 u.d.net.d1 u.d.net.d2 u.d.net.d3, .slice e.BA e.x.length e.bc] w1 fun e1 w' => e1 = .returned (.bool false) ∧ Below w1.heap.size w1 w') := fun w1 hb => by
        have := rf_Words u.d.net.d0 u.d.net.d1 u.d.net.d2 u.d.net.d3 e.BA e.x e.bc w1 he.n (he.x.grow hb)
        rw [show wordsB _ _ _ _ _ = false from hfit] at this; exact this
      have HE : Hid (u.d.feedE e = 17) := by show _ = _; rw [HEE.out, if_pos hk1]; unfold StrD.sampE; rw [if_pos hlong, hfit]; exact rfl
      rw [HE.out]
      clear hu he hg hne hk1 hfit hlong
      go_enter Try.func15, Try.ntmps15
      go_upto_region 1 with fail
      obtain ⟨bx0, be0, bz0, hb0, hs0⟩ := entry3 w u e _ rfl
      change Code.wp _ _ _ _ (((w.alloc (.cells u.cells.toArray 39)).alloc (.cells e.cells.toArray 33)).alloc (.cells StrA.zero.cells.toArray 39))
      generalize (((w.alloc (.cells u.cells.toArray 39)).alloc (.cells e.cells.toArray 33)).alloc (.cells StrA.zero.cells.toArray 39)) = W0 at bx0 be0 bz0 hb0 hs0 ⊢
      have BX0 := Lib.hid bx0
      have BE0 := Lib.hid be0
      have BZ0 := Lib.hid bz0
      have HB0 := Lib.hid hb0
      clear bx0 be0 bz0 hb0
      go_wp2_with (first
        | (refine ld_str BX0.out rfl _ rfl rfl ?_)
        | (go_at_call 30; (with_reducible refine (CV.out _ HB0.out).mono ?_); rintro e1 w1 ⟨rfl, hb1⟩; have bx1 := BX0.out.keep hb1; have be1 := BE0.out.keep hb1; have bz1 := BZ0.out.keep hb1; have hw1 := below_then HB0.out hb1; have hs1 := hb1.size; obtain ⟨⟨a1, a2, a3, a4⟩, ⟨a5, a6, a7, a8⟩, a9, a10, a11, a12⟩ := bx1.net; obtain ⟨r1, r2, r3, r4, r5⟩ := bx1.rest; obtain ⟨v1, v2, ⟨v3, v4, v5, v6⟩, v7, v8⟩ := be1.c; rw [HK.out] at v1)
        | (go_at_call 31; (with_reducible refine (CW.out _ hw1).mono ?_); rintro e2 w2 ⟨rfl, hb2⟩; have bx2 := bx1.keep hb2; have be2 := be1.keep hb2; have bz2 := bz1.keep hb2; have hw2 := below_then hw1 hb2; have hs2 := hb2.size; obtain ⟨⟨a1, a2, a3, a4⟩, ⟨a5, a6, a7, a8⟩, a9, a10, a11, a12⟩ := bx2.net; obtain ⟨r1, r2, r3, r4, r5⟩ := bx2.rest; obtain ⟨v1, v2, ⟨v3, v4, v5, v6⟩, v7, v8⟩ := be2.c; rw [HK.out] at v1)
        | (refine st_str bz2 (u' := StrA.zero) rfl _ _ rfl rfl rfl ?_; intro W9 bz9 pg9; have hw9 := put_facts hw2 (by omega) pg9))
      have hres := res_str bz9
      refine bodyPost_ret (results_ctt rfl _ _ _ rfl hres) rfl ?_
      unfold StrD.feedD StrD.feedO
      rw [HE.out]
      exact ⟨StrA.zero, none, 0, rfl, rfl, StrF.zero (b := 0) |>.at, Ints.nil, hw9⟩
    · have hlo : (4096 : Int) < (e.x.length : Int) := by omega
      have HE : Hid (u.d.feedE e = 4) := by show _ = _; rw [HEE.out, if_pos hk1]; unfold StrD.sampE; rw [if_neg hlong]
      rw [HE.out]
      clear hu he hg hne hk1 hlong
      go_enter Try.func15, Try.ntmps15
      go_upto_region 1 with fail
      obtain ⟨bx0, be0, bz0, hb0, hs0⟩ := entry3 w u e _ rfl
      change Code.wp _ _ _ _ (((w.alloc (.cells u.cells.toArray 39)).alloc (.cells e.cells.toArray 33)).alloc (.cells StrA.zero.cells.toArray 39))
      generalize (((w.alloc (.cells u.cells.toArray 39)).alloc (.cells e.cells.toArray 33)).alloc (.cells StrA.zero.cells.toArray 39)) = W0 at bx0 be0 bz0 hb0 hs0 ⊢
      have BX0 := Lib.hid bx0
      have BE0 := Lib.hid be0
      have BZ0 := Lib.hid bz0
      have HB0 := Lib.hid hb0
      clear bx0 be0 bz0 hb0
      go_wp2_with (first
        | (refine ld_str BX0.out rfl _ rfl rfl ?_)
        | (go_at_call 30; (with_reducible refine (CV.out _ HB0.out).mono ?_); rintro e1 w1 ⟨rfl, hb1⟩; have bx1 := BX0.out.keep hb1; have be1 := BE0.out.keep hb1; have bz1 := BZ0.out.keep hb1; have hw1 := below_then HB0.out hb1; have hs1 := hb1.size; obtain ⟨⟨a1, a2, a3, a4⟩, ⟨a5, a6, a7, a8⟩, a9, a10, a11, a12⟩ := bx1.net; obtain ⟨r1, r2, r3, r4, r5⟩ := bx1.rest; obtain ⟨v1, v2, ⟨v3, v4, v5, v6⟩, v7, v8⟩ := be1.c; rw [HK.out] at v1)
        | (refine st_str bz1 (u' := StrA.zero) rfl _ _ rfl rfl rfl ?_; intro W9 bz9 pg9; have hw9 := put_facts hw1 (by omega) pg9))
      have hres := res_str bz9
      refine bodyPost_ret (results_ctt rfl _ _ _ rfl hres) rfl ?_
      unfold StrD.feedD StrD.feedO
      rw [HE.out]
      exact ⟨StrA.zero, none, 0, rfl, rfl, StrF.zero (b := 0) |>.at, Ints.nil, hw9⟩
  have hk2 : ¬ e.kind = 2 := by
    rcases hcase with h | h
    · exact absurd hg h
    · exact h
  have HE : Hid (u.d.feedE e = 1) := by show _ = _; rw [HEE.out, if_neg hk1, if_neg hk2]
  rw [HE.out]
  clear hu he hg hne hcase
  go_enter Try.func15, Try.ntmps15
  go_upto_region 1 with fail
  obtain ⟨bx0, be0, bz0, hb0, hs0⟩ := entry3 w u e _ rfl
  change Code.wp _ _ _ _ (((w.alloc (.cells u.cells.toArray 39)).alloc (.cells e.cells.toArray 33)).alloc (.cells StrA.zero.cells.toArray 39))
  generalize (((w.alloc (.cells u.cells.toArray 39)).alloc (.cells e.cells.toArray 33)).alloc (.cells StrA.zero.cells.toArray 39)) = W0 at bx0 be0 bz0 hb0 hs0 ⊢
  have BX0 := Lib.hid bx0
  have BE0 := Lib.hid be0
  have BZ0 := Lib.hid bz0
  have HB0 := Lib.hid hb0
  clear bx0 be0 bz0 hb0
  go_wp2_with (first
    | (refine ld_str BX0.out rfl _ rfl rfl ?_)
    | (go_at_call 30; (with_reducible refine (CV.out _ HB0.out).mono ?_); rintro e1 w1 ⟨rfl, hb1⟩; have bx1 := BX0.out.keep hb1; have be1 := BE0.out.keep hb1; have bz1 := BZ0.out.keep hb1; have hw1 := below_then HB0.out hb1; have hs1 := hb1.size; obtain ⟨⟨a1, a2, a3, a4⟩, ⟨a5, a6, a7, a8⟩, a9, a10, a11, a12⟩ := bx1.net; obtain ⟨r1, r2, r3, r4, r5⟩ := bx1.rest; obtain ⟨v1, v2, ⟨v3, v4, v5, v6⟩, v7, v8⟩ := be1.c)
    | (refine st_str bz1 (u' := StrA.zero) rfl _ _ rfl rfl rfl ?_; intro W9 bz9 pg9; have hw9 := put_facts hw1 (by omega) pg9))
  have hres := res_str bz9
  refine bodyPost_ret (results_ctt rfl _ _ _ rfl hres) rfl ?_
  unfold StrD.feedD StrD.feedO
  rw [HE.out]
  exact ⟨StrA.zero, none, 0, rfl, rfl, StrF.zero (b := 0) |>.at, Ints.nil, hw9⟩
end Go.Proofs.Ytgabfdappeakiaa
end
section
/- Same of the reference of layer 42: two streams in the heap with the same plain data. -/
set_option linter.unusedVariables false
set_option linter.unusedSimpArgs false
namespace Go.Proofs.Ytgabfdappeakiaa
open Go.RowKit

theorem ld_oldW {ops : Array Oper} {rest : List Oper} {o : Oper} {a : Act} {Q : Exit → Act → World → Prop} {w : World} {u : StrA} {g : Nat} (hb : StrBox w g u) (hw : Region.wanted o (yielded ops a.tmps) = true) (x : Operand) (ho : o.op = .load 31 x) (hx : a.eval x = .pointer (some ⟨g, 12, none⟩)) (h : wpList Try.prog ops Q rest (a.put o.dst (.agg u.oldL.toArray)) w) : wpList Try.prog ops Q (o :: rest) a w := by
  obtain ⟨d, h1, h2⟩ := row_net
  exact BigFrame.wpList_want hw fun K hK => wp_load_mid _ x ho g 12 hx u.oldL d (Box.range hb.box (old_in u)) h1 h2 size_net (hK _ _ h)
theorem entrySS (w : World) (u v : StrA) : ∀ W, W = ((w.alloc (.cells u.cells.toArray 39)).alloc (.cells v.cells.toArray 39)) →
    StrBox W w.heap.size u ∧ StrBox W (w.heap.size + 1) v ∧ Below w.heap.size w W := fun W hW => by
  subst hW
  exact ⟨Box.alloc (Box.new rfl) _, Box.new (by simp), ((Below.refl w.heap.size w).alloc (Nat.le_refl _) _).alloc (by simp) _⟩
set_option maxRecDepth 100000 in
set_option maxHeartbeats 4000000 in
theorem r42_Same (u v : StrA) (w : World) (hd : v.d = u.d) (hu : StrAt w u) (hv : StrAt w v) (n1 : u.d.net.nx.length ≤ 1000000) (n2 : u.d.old.nx.length ≤ 1000000) (n3 : u.d.s.length ≤ 1000000) (n4 : u.d.f.length ≤ 1000000) :
    Calls Try.prog 10 #[u.v, v.v] w (fun e w' => e = .returned (.bool true) ∧ Below w.heap.size w w') := by
  have eN : v.netL = u.d.net.lst v.NA v.nc v.XA v.xc := by unfold StrA.netL; rw [hd]
  have eO : v.oldL = u.d.old.lst v.MA v.mc v.YA v.yc := by unfold StrA.oldL; rw [hd]
  have CN : Hid (∀ w1, Below w.heap.size w w1 → Calls Try.prog 22 #[.agg u.netL.toArray, .agg v.netL.toArray] w1 fun e w' => e = .returned (.bool true) ∧ Below w1.heap.size w1 w') := fun w1 hb => by
    rw [eN]
    exact r22_SameNets u.d.net u.NA u.XA v.NA v.XA u.nc u.xc v.nc v.xc w1 (hu.net.grow hb) (by have := hv.net.grow hb; rw [hd] at this; exact this) n1
  have CO : Hid (∀ w1, Below w.heap.size w w1 → Calls Try.prog 22 #[.agg u.oldL.toArray, .agg v.oldL.toArray] w1 fun e w' => e = .returned (.bool true) ∧ Below w1.heap.size w1 w') := fun w1 hb => by
    rw [eO]
    exact r22_SameNets u.d.old u.MA u.YA v.MA v.YA u.mc u.yc v.mc v.yc w1 (hu.old.grow hb) (by have := hv.old.grow hb; rw [hd] at this; exact this) n2
  have CS : Hid (∀ w1, Below w.heap.size w w1 → Calls Try.prog 9 #[.slice u.SA u.d.s.length u.sc, .slice v.SA u.d.s.length v.sc] w1 fun e w' => e = .returned (.bool true) ∧ Below w1.heap.size w1 w') := fun w1 hb =>
    rf_SameN u.SA v.SA u.d.s u.d.s u.sc v.sc _ _ w1 rfl rfl n3 rfl (hu.s.grow hb) (by have := hv.s.grow hb; rw [hd] at this; exact this)
  have CF : Hid (∀ w1, Below w.heap.size w w1 → Calls Try.prog 9 #[.slice u.FA u.d.f.length u.fc, .slice v.FA u.d.f.length v.fc] w1 fun e w' => e = .returned (.bool true) ∧ Below w1.heap.size w1 w') := fun w1 hb =>
    rf_SameN u.FA v.FA u.d.f u.d.f u.fc v.fc _ _ w1 rfl rfl n4 rfl (hu.f.grow hb) (by have := hv.f.grow hb; rw [hd] at this; exact this)
  have HD := Lib.hid hd
  clear hu hv n1 n2 n3 n4 hd eN eO
  go_enter Try.func10, Try.ntmps10
  go_upto_region 1 with fail
  obtain ⟨bx0, bz0, hb0⟩ := entrySS w u v _ rfl
  change Code.wp _ _ _ _ ((w.alloc (.cells u.cells.toArray 39)).alloc (.cells v.cells.toArray 39))
  generalize ((w.alloc (.cells u.cells.toArray 39)).alloc (.cells v.cells.toArray 39)) = W0 at bx0 bz0 hb0 ⊢
  go_wp2_with (first
    | ((with_reducible show wpList _ _ _ (Oper.mk _ (.load 31 _) _ _ _ _ :: _) _ _); first | (refine ld_net bx0 rfl _ rfl rfl ?_) | (refine ld_net bz0 rfl _ rfl rfl ?_) | (refine ld_oldW bx1 rfl _ rfl rfl ?_) | (refine ld_oldW bz1 rfl _ rfl rfl ?_))
    | (go_at_call 22; first
        | ((with_reducible refine (CN.out _ hb0).mono ?_); rintro e1 w1 ⟨rfl, hb1⟩; have bx1 := bx0.keep hb1; have bz1 := bz0.keep hb1; have hw1 := below_then hb0 hb1)
        | ((with_reducible refine (CO.out _ hw1).mono ?_); rintro e2 w2 ⟨rfl, hb2⟩; have bx2 := bx1.keep hb2; have bz2 := bz1.keep hb2; have hw2 := below_then hw1 hb2; obtain ⟨r1, r2, r3, r4, r5⟩ := bx2.rest; obtain ⟨q1, q2, q3, q4, q5⟩ := bz2.rest; rw [HD.out] at q1 q2))
    | (go_at_call 9; first
        | ((with_reducible refine (CS.out _ hw2).mono ?_); rintro e3 w3 ⟨rfl, hb3⟩; have bx3 := bx2.keep hb3; have bz3 := bz2.keep hb3; have hw3 := below_then hw2 hb3; clear r1 r2 r3 r4 r5 q1 q2 q3 q4 q5; obtain ⟨r1, r2, r3, r4, r5⟩ := bx3.rest; obtain ⟨q1, q2, q3, q4, q5⟩ := bz3.rest; rw [HD.out] at q1 q2)
        | ((with_reducible refine (CF.out _ hw3).mono ?_); rintro e4 w4 ⟨rfl, hb4⟩; have bx4 := bx3.keep hb4; have bz4 := bz3.keep hb4; have hw4 := below_then hw3 hb4; clear r1 r2 r3 r4 r5 q1 q2 q3 q4 q5; obtain ⟨r1, r2, r3, r4, r5⟩ := bx4.rest; obtain ⟨q1, q2, q3, q4, q5⟩ := bz4.rest; rw [HD.out] at q1 q2 q3 q4 q5)))
  go_ret
  exact ⟨rfl, hw4⟩
end Go.Proofs.Ytgabfdappeakiaa
end
