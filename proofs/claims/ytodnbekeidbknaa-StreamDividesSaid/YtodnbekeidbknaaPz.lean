/- Several texts in one: Tp T9 Tk Tq. -/
import Derived.Test.YtodnbekeidbknaaT8
import Derived.Test.YtodnbekeidbknaaPs
import Derived.Test.YtodnbekeidbknaaTj
section
/- SameNets of the reference: two networks in the heap with the same plain data. -/
set_option linter.unusedVariables false
set_option linter.unusedSimpArgs false
namespace Go.Proofs.Ytodnbekeidbknaa
open Go.RowKit

set_option maxRecDepth 100000 in
set_option maxHeartbeats 4000000 in
theorem r22_SameNets (n : NetD) (NA XA NB XB : Option Addr) (nc xc mc yc : Nat) (w : World) (hA : NetAt w n NA XA) (hB : NetAt w n NB XB) (hx : n.nx.length ≤ 1000000) :
    Calls Try.prog 19 #[n.val NA nc XA xc, n.val NB mc XB yc] w (fun e w' => e = .returned (.bool true) ∧ Below w.heap.size w w') := by
  obtain ⟨d0, d1, d2, d3, c0, c1, c2, c3, st, out, ns, nx⟩ := n
  have HN1 := Lib.hid hA.nodes
  have HX1 := Lib.hid hA.next
  have HN2 := Lib.hid hB.nodes
  have HX2 := Lib.hid hB.next
  have h1 := hA.n1
  have h3 := Lib.hid hA.n3
  show Calls Try.prog 19 #[netV d0 d1 d2 d3 c0 c1 c2 c3 st NA ns.length nc XA nx.length xc out, netV d0 d1 d2 d3 c0 c1 c2 c3 st NB ns.length mc XB nx.length yc out] w _
  obtain ⟨xn, hxn⟩ : ∃ n, nx.length = n := ⟨_, rfl⟩
  obtain ⟨nn, hnn⟩ : ∃ n, ns.length = n := ⟨_, rfl⟩
  have hx' : nx.length ≤ 1000000 := hx
  have h1' : ns.length ≤ 9223372036854775807 := h1
  clear hx h1 hA hB
  rw [hxn] at hx' ⊢
  rw [hnn] at h1' ⊢
  have HXN := Lib.hid hxn
  have HNN := Lib.hid hnn
  clear hxn hnn
  obtain ⟨K, hK⟩ : ∃ K : World → Prop, K = fun w' => Below w.heap.size w w' ∧ Box w' w.heap.size [.int .i64 d0, .int .i64 d1, .int .i64 d2, .int .i64 d3, .int .i64 c0, .int .i64 c1, .int .i64 c2, .int .i64 c3, .int .i64 st, .slice NA nn nc, .slice XA xn xc, .int .i64 out] ∧ Box w' (w.heap.size + 1) [.int .i64 d0, .int .i64 d1, .int .i64 d2, .int .i64 d3, .int .i64 c0, .int .i64 c1, .int .i64 c2, .int .i64 c3, .int .i64 st, .slice NB nn mc, .slice XB xn yc, .int .i64 out] := ⟨_, rfl⟩
  have K0 : K ((w.alloc (.cells #[.int .i64 d0, .int .i64 d1, .int .i64 d2, .int .i64 d3, .int .i64 c0, .int .i64 c1, .int .i64 c2, .int .i64 c3, .int .i64 st, .slice NA nn nc, .slice XA xn xc, .int .i64 out] 31)).alloc (.cells #[.int .i64 d0, .int .i64 d1, .int .i64 d2, .int .i64 d3, .int .i64 c0, .int .i64 c1, .int .i64 c2, .int .i64 c3, .int .i64 st, .slice NB nn mc, .slice XB xn yc, .int .i64 out] 31)) := by
    rw [hK]
    exact ⟨((Below.refl _ _).alloc (Nat.le_refl _) _).alloc (by simp) _, (Box.new rfl).alloc _, Box.new (by simp)⟩
  have KG : Hid (∀ w1 w2, K w1 → Below w1.heap.size w1 w2 → K w2) := by
    show ∀ w1 w2, K w1 → Below w1.heap.size w1 w2 → K w2
    rw [hK]
    exact fun w1 w2 h1 h2 => ⟨below_then h1.1 h2, h1.2.1.keep h2, h1.2.2.keep h2⟩
  have KB : Hid (∀ w1, K w1 → Below w.heap.size w w1) := by
    show ∀ w1, K w1 → Below w.heap.size w w1
    rw [hK]; exact fun w1 h => h.1
  have K12 : Hid (∀ w1, K w1 → (w1.cell? ⟨w.heap.size, 0, none⟩ = some (.int .i64 d0) ∧ w1.cell? ⟨w.heap.size, 1, none⟩ = some (.int .i64 d1) ∧ w1.cell? ⟨w.heap.size, 2, none⟩ = some (.int .i64 d2) ∧ w1.cell? ⟨w.heap.size, 3, none⟩ = some (.int .i64 d3)) ∧
      (w1.cell? ⟨w.heap.size, 4, none⟩ = some (.int .i64 c0) ∧ w1.cell? ⟨w.heap.size, 5, none⟩ = some (.int .i64 c1) ∧ w1.cell? ⟨w.heap.size, 6, none⟩ = some (.int .i64 c2) ∧ w1.cell? ⟨w.heap.size, 7, none⟩ = some (.int .i64 c3)) ∧
      w1.cell? ⟨w.heap.size, 8, none⟩ = some (.int .i64 st) ∧ w1.cell? ⟨w.heap.size, 9, none⟩ = some (.slice NA nn nc) ∧ w1.cell? ⟨w.heap.size, 10, none⟩ = some (.slice XA xn xc) ∧ w1.cell? ⟨w.heap.size, 11, none⟩ = some (.int .i64 out)) := by
    show ∀ w1, K w1 → _
    rw [hK]
    exact fun w1 h => ⟨⟨h.2.1.2.1 0, h.2.1.2.1 1, h.2.1.2.1 2, h.2.1.2.1 3⟩, ⟨h.2.1.2.1 4, h.2.1.2.1 5, h.2.1.2.1 6, h.2.1.2.1 7⟩, h.2.1.2.1 8, h.2.1.2.1 9, h.2.1.2.1 10, h.2.1.2.1 11⟩
  have L12 : Hid (∀ w1, K w1 → (w1.cell? ⟨w.heap.size + 1, 0, none⟩ = some (.int .i64 d0) ∧ w1.cell? ⟨w.heap.size + 1, 1, none⟩ = some (.int .i64 d1) ∧ w1.cell? ⟨w.heap.size + 1, 2, none⟩ = some (.int .i64 d2) ∧ w1.cell? ⟨w.heap.size + 1, 3, none⟩ = some (.int .i64 d3)) ∧
      (w1.cell? ⟨w.heap.size + 1, 4, none⟩ = some (.int .i64 c0) ∧ w1.cell? ⟨w.heap.size + 1, 5, none⟩ = some (.int .i64 c1) ∧ w1.cell? ⟨w.heap.size + 1, 6, none⟩ = some (.int .i64 c2) ∧ w1.cell? ⟨w.heap.size + 1, 7, none⟩ = some (.int .i64 c3)) ∧
      w1.cell? ⟨w.heap.size + 1, 8, none⟩ = some (.int .i64 st) ∧ w1.cell? ⟨w.heap.size + 1, 9, none⟩ = some (.slice NB nn mc) ∧ w1.cell? ⟨w.heap.size + 1, 10, none⟩ = some (.slice XB xn yc) ∧ w1.cell? ⟨w.heap.size + 1, 11, none⟩ = some (.int .i64 out)) := by
    show ∀ w1, K w1 → _
    rw [hK]
    exact fun w1 h => ⟨⟨h.2.2.2.1 0, h.2.2.2.1 1, h.2.2.2.1 2, h.2.2.2.1 3⟩, ⟨h.2.2.2.1 4, h.2.2.2.1 5, h.2.2.2.1 6, h.2.2.2.1 7⟩, h.2.2.2.1 8, h.2.2.2.1 9, h.2.2.2.1 10, h.2.2.2.1 11⟩
  have KS : Hid (∀ w1, K w1 → w.heap.size + 1 < w1.heap.size) := by
    show ∀ w1, K w1 → _
    rw [hK]; exact fun w1 h => h.2.2.1
  clear hK
  unfold netV
  go_enter Try.func19, Try.ntmps19
  go_upto_region 1 with fail
  generalize ((w.alloc (.cells #[.int .i64 d0, .int .i64 d1, .int .i64 d2, .int .i64 d3, .int .i64 c0, .int .i64 c1, .int .i64 c2, .int .i64 c3, .int .i64 st, .slice NA nn nc, .slice XA xn xc, .int .i64 out] 31)).alloc (.cells #[.int .i64 d0, .int .i64 d1, .int .i64 d2, .int .i64 d3, .int .i64 c0, .int .i64 c1, .int .i64 c2, .int .i64 c3, .int .i64 st, .slice NB nn mc, .slice XB xn yc, .int .i64 out] 31)) = W0 at K0 ⊢
  obtain ⟨⟨a1, a2, a3, a4⟩, ⟨a5, a6, a7, a8⟩, a9, a10, a11, a12⟩ := K12.out _ K0
  obtain ⟨⟨b1, b2, b3, b4⟩, ⟨b5, b6, b7, b8⟩, b9, b10, b11, b12⟩ := L12.out _ K0
  go_wp2_with (go_at_call 10; refine (rf_SameN XA XB nx nx xc yc xn xn _ HXN.out HXN.out hx' rfl (HX1.out.grow (KB.out _ K0)) (HX2.out.grow (KB.out _ K0))).mono ?_; rintro e w1 ⟨rfl, hb1⟩; have K1 := KG.out _ _ K0 hb1; clear a1 a2 a3 a4 a5 a6 a7 a8 a9 a10 a11 a12 b1 b2 b3 b4 b5 b6 b7 b8 b9 b10 b11 b12; obtain ⟨⟨a1, a2, a3, a4⟩, ⟨a5, a6, a7, a8⟩, a9, a10, a11, a12⟩ := K12.out _ K1; obtain ⟨⟨b1, b2, b3, b4⟩, ⟨b5, b6, b7, b8⟩, b9, b10, b11, b12⟩ := L12.out _ K1)
  have HK1 := Lib.hid K1
  clear a1 a2 a3 a4 a5 a6 a7 a8 a9 a10 a11 a12 b1 b2 b3 b4 b5 b6 b7 b8 b9 b10 b11 b12 K0 K1 hb1
  go_loopw [5, 6] (fun i _ wr => ∃ k : Nat, k ≤ nn ∧ i = .int .i64 k ∧ K wr) (fun i _ _ => nn - (intOf i).toNat)
  case atStart => exact ⟨0, Nat.zero_le _, rfl, HK1.out⟩
  case round =>
    obtain ⟨k, hk, rfl, hp⟩ := hrel
    obtain ⟨-, -, -, a10, -, -⟩ := K12.out _ hp
    obtain ⟨-, -, -, b10, -, -⟩ := L12.out _ hp
    by_cases hlt : k < nn
    · obtain ⟨ts, hts⟩ : ∃ ts, ns[k]? = some ts := ⟨_, List.getElem?_eq_getElem (by rw [HNN.out]; exact hlt)⟩
      obtain ⟨ad, B, bc, rfl, hba, cn, hT⟩ := (HN1.out.grow (KB.out _ hp)) k ts hts
      obtain ⟨bd, C, cc, rfl, hbb, dn, hU⟩ := (HN2.out.grow (KB.out _ hp)) k ts hts
      have H3t := h3.out ts (List.mem_of_getElem? hts)
      have HPP := Lib.hid hp
      have HTS := Lib.hid hts
      have y1 : (0 : Int) ≤ (k : Int) := by omega
      have y2 : (k : Int) < (nn : Int) := by omega
      have hsz := KS.out _ hp
      have hbk := KB.out _ hp
      have hbz := hbk.size
      have xa : ∀ n : Ext wr, n.to.cell? ⟨w.heap.size, 9, none⟩ = some (.slice (some ad) nn nc) := fun n => (n.cell _ (by show w.heap.size < _; omega)).trans a10
      have xb : ∀ n : Ext wr, n.to.cell? ⟨w.heap.size + 1, 9, none⟩ = some (.slice (some bd) nn mc) := fun n => (n.cell _ hsz).trans b10
      have xc : ∀ n : Ext wr, n.to.cell? (ad.add k) = some (.slice B ts.length bc) := fun n => (n.cell _ (by rw [block_add]; omega)).trans cn
      have xd : ∀ n : Ext wr, n.to.cell? (bd.add k) = some (.slice C ts.length cc) := fun n => (n.cell _ (by rw [block_add]; omega)).trans dn
      have XA := Lib.hid xa
      have XB := Lib.hid xb
      have XC := Lib.hid xc
      have XD := Lib.hid xd
      clear hp hT hU hts hbk xa xb xc xd
      go_wp2_with fail
      have xa := XA.out
      have xb := XB.out
      have xc := XC.out
      have xd := XD.out
      clear a10 b10 cn dn
      refine wp_region_ext (by kernel_rfl) (by kernel_rfl) ?_
      repeat (go_big_quiet_step (fail))
      refine wpQuiet_nil ?_
      rintro _ ⟨⟨w6, hb6⟩, rfl⟩
      clear xa xb xc xd XA XB XC XD hba hbb hsz hbz
      have HP6 := Lib.hid (KG.out _ _ HPP.out hb6)
      go_wp2_with fail
      clear hb6
      go_loopw [6] (fun i wr => ∃ j : Nat, j ≤ ts.length ∧ i = .int .i64 j ∧ K wr) (fun i _ => ts.length - (intOf i).toNat)
      case atStart => exact ⟨0, Nat.zero_le _, rfl, HP6.out⟩
      case round =>
        obtain ⟨j, hj, rfl, hp⟩ := hrel
        obtain ⟨-, -, -, a10, -, -⟩ := K12.out _ hp
        obtain ⟨-, -, -, b10, -, -⟩ := L12.out _ hp
        obtain ⟨_, B', bc', e, hba, cn, hT⟩ := (HN1.out.grow (KB.out _ hp)) k ts HTS.out
        injection e with e
        subst e
        obtain ⟨_, C', cc', e, hbb, dn, hU⟩ := (HN2.out.grow (KB.out _ hp)) k ts HTS.out
        injection e with e
        subst e
        by_cases hltj : j < ts.length
        · obtain ⟨tm, htm⟩ : ∃ tm, ts[j]? = some tm := ⟨_, List.getElem?_eq_getElem hltj⟩
          obtain ⟨a2, rfl, hb2, ct0, ct1, i1, i2⟩ := hT j tm htm
          obtain ⟨b2, rfl, hc2, dt0, dt1, -, -⟩ := hU j tm htm
          have x2 : (0 : Int) ≤ (j : Int) := by omega
          have x3 : (j : Int) < (ts.length : Int) := by omega
          have HP2 := Lib.hid hp
          have hsz := KS.out _ hp
          have hbk := KB.out _ hp
          have hbz := hbk.size
          have xa : ∀ n : Ext wr, n.to.cell? ⟨w.heap.size, 9, none⟩ = some (.slice (some ad) nn nc) := fun n => (n.cell _ (by show w.heap.size < _; omega)).trans a10
          have xb : ∀ n : Ext wr, n.to.cell? ⟨w.heap.size + 1, 9, none⟩ = some (.slice (some bd) nn mc) := fun n => (n.cell _ hsz).trans b10
          have xc : ∀ n : Ext wr, n.to.cell? (ad.add k) = some (.slice (some a2) ts.length bc') := fun n => (n.cell _ (by rw [block_add]; omega)).trans cn
          have xd : ∀ n : Ext wr, n.to.cell? (bd.add k) = some (.slice (some b2) ts.length cc') := fun n => (n.cell _ (by rw [block_add]; omega)).trans dn
          have xe : ∀ n : Ext wr, n.to.cell? (a2.add (j * 2)) = some (.int .i64 tm.1) := fun n => (n.cell _ (by rw [block_add]; omega)).trans ct0
          have xf : ∀ n : Ext wr, n.to.cell? ⟨(a2.add (j * 2)).block, (a2.add (j * 2)).off + 1, none⟩ = some (.int .i64 tm.2) := fun n => (n.cell _ (by show (a2.add _).block < _; rw [block_add]; omega)).trans ct1
          have xg : ∀ n : Ext wr, n.to.cell? (b2.add (j * 2)) = some (.int .i64 tm.1) := fun n => (n.cell _ (by rw [block_add]; omega)).trans dt0
          have xh : ∀ n : Ext wr, n.to.cell? ⟨(b2.add (j * 2)).block, (b2.add (j * 2)).off + 1, none⟩ = some (.int .i64 tm.2) := fun n => (n.cell _ (by show (b2.add _).block < _; rw [block_add]; omega)).trans dt1
          have XA := Lib.hid xa
          have XB := Lib.hid xb
          have XC := Lib.hid xc
          have XD := Lib.hid xd
          have XE := Lib.hid xe
          have XF := Lib.hid xf
          have XG := Lib.hid xg
          have XH := Lib.hid xh
          clear htm hT hU hp hbk xa xb xc xd xe xf xg xh
          go_wp2_with fail
          have xa := XA.out
          have xb := XB.out
          have xc := XC.out
          have xd := XD.out
          have xe := XE.out
          have xf := XF.out
          have xg := XG.out
          have xh := XH.out
          clear a10 b10 cn dn ct0 ct1 dt0 dt1
          refine wp_region_ext (by kernel_rfl) (by kernel_rfl) ?_
          repeat (go_big_quiet_step (fail))
          refine wpQuiet_nil ?_
          rintro _ ⟨⟨w7, hb7⟩, rfl⟩
          clear xa xb xc xd xe xf xg xh XA XB XC XD XE XF XG XH
          have HP7 := Lib.hid (KG.out _ _ HP2.out hb7)
          go_wp2_with fail
          go_roundw
          case rel => exact ⟨j + 1, by omega, by go_num, HP7.out⟩
          case measure => simp [intOf]; omega
        · obtain rfl : j = ts.length := by omega
          have HP2 := Lib.hid hp
          clear hT hU hp
          go_wp2
          go_roundw
          case rel => exact ⟨k + 1, by omega, by go_num, HP2.out⟩
          case measure => simp [intOf]; omega
    · obtain rfl : k = nn := by omega
      have HPP := Lib.hid hp
      clear hp
      go_wp2_with fail
      go_ret
      exact ⟨rfl, KB.out _ HPP.out⟩
end Go.Proofs.Ytodnbekeidbknaa
end
section
/- The walk of Valid of the reference of layer 42. -/
set_option linter.unusedVariables false
set_option linter.unusedSimpArgs false
namespace Go.Proofs.Ytodnbekeidbknaa
open Go.RowKit

end Go.Proofs.Ytodnbekeidbknaa
end
section
/- The errors of Feed of the reference of layer 42. -/
set_option linter.unusedVariables false
set_option linter.unusedSimpArgs false
namespace Go.Proofs.Ytodnbekeidbknaa
open Go.RowKit

/-- A call hands back a stream, outputs and an error, in memory of whomever. -/
def RetFeedR (w : World) (d : StrD) (l : List Int) (E : Int) (e : Ending) (w' : World) : Prop := ∃ (u : StrA) (A : Option Addr) (c : Nat), e = .returned (.tuple #[u.v, .slice A l.length c, .int .i64 E]) ∧ u.d = d ∧ StrAt w' u ∧ Ints w' A l ∧ Below w.heap.size w w'
end Go.Proofs.Ytodnbekeidbknaa
end
section
/- Same of the reference of layer 42: two streams in the heap with the same plain data. -/
set_option linter.unusedVariables false
set_option linter.unusedSimpArgs false
namespace Go.Proofs.Ytodnbekeidbknaa
open Go.RowKit

theorem ld_oldW {ops : Array Oper} {rest : List Oper} {o : Oper} {a : Act} {Q : Exit → Act → World → Prop} {w : World} {u : StrA} {g : Nat} (hb : StrBox w g u) (hw : Region.wanted o (yielded ops a.tmps) = true) (x : Operand) (ho : o.op = .load 31 x) (hx : a.eval x = .pointer (some ⟨g, 12, none⟩)) (h : wpList Try.prog ops Q rest (a.put o.dst (.agg u.oldL.toArray)) w) : wpList Try.prog ops Q (o :: rest) a w := by
  obtain ⟨d, h1, h2⟩ := row_net
  exact BigFrame.wpList_want hw fun K hK => wp_load_mid _ x ho g 12 hx u.oldL d (Box.range hb.box (old_in u)) h1 h2 size_net (hK _ _ h)
theorem entrySS (w : World) (u v : StrA) : ∀ W, W = ((w.alloc (.cells u.cells.toArray 38)).alloc (.cells v.cells.toArray 38)) →
    StrBox W w.heap.size u ∧ StrBox W (w.heap.size + 1) v ∧ Below w.heap.size w W := fun W hW => by
  subst hW
  exact ⟨Box.alloc (Box.new rfl) _, Box.new (by simp), ((Below.refl w.heap.size w).alloc (Nat.le_refl _) _).alloc (by simp) _⟩
set_option maxRecDepth 100000 in
set_option maxHeartbeats 4000000 in
theorem r42_Same (u v : StrA) (w : World) (hd : v.d = u.d) (hu : StrAt w u) (hv : StrAt w v) (n1 : u.d.net.nx.length ≤ 1000000) (n2 : u.d.old.nx.length ≤ 1000000) (n3 : u.d.s.length ≤ 1000000) (n4 : u.d.f.length ≤ 1000000) :
    Calls Try.prog 11 #[u.v, v.v] w (fun e w' => e = .returned (.bool true) ∧ Below w.heap.size w w') := by
  have eN : v.netL = u.d.net.lst v.NA v.nc v.XA v.xc := by unfold StrA.netL; rw [hd]
  have eO : v.oldL = u.d.old.lst v.MA v.mc v.YA v.yc := by unfold StrA.oldL; rw [hd]
  have CN : Hid (∀ w1, Below w.heap.size w w1 → Calls Try.prog 19 #[.agg u.netL.toArray, .agg v.netL.toArray] w1 fun e w' => e = .returned (.bool true) ∧ Below w1.heap.size w1 w') := fun w1 hb => by
    rw [eN]
    exact r22_SameNets u.d.net u.NA u.XA v.NA v.XA u.nc u.xc v.nc v.xc w1 (hu.net.grow hb) (by have := hv.net.grow hb; rw [hd] at this; exact this) n1
  have CO : Hid (∀ w1, Below w.heap.size w w1 → Calls Try.prog 19 #[.agg u.oldL.toArray, .agg v.oldL.toArray] w1 fun e w' => e = .returned (.bool true) ∧ Below w1.heap.size w1 w') := fun w1 hb => by
    rw [eO]
    exact r22_SameNets u.d.old u.MA u.YA v.MA v.YA u.mc u.yc v.mc v.yc w1 (hu.old.grow hb) (by have := hv.old.grow hb; rw [hd] at this; exact this) n2
  have CS : Hid (∀ w1, Below w.heap.size w w1 → Calls Try.prog 10 #[.slice u.SA u.d.s.length u.sc, .slice v.SA u.d.s.length v.sc] w1 fun e w' => e = .returned (.bool true) ∧ Below w1.heap.size w1 w') := fun w1 hb =>
    rf_SameN u.SA v.SA u.d.s u.d.s u.sc v.sc _ _ w1 rfl rfl n3 rfl (hu.s.grow hb) (by have := hv.s.grow hb; rw [hd] at this; exact this)
  have CF : Hid (∀ w1, Below w.heap.size w w1 → Calls Try.prog 10 #[.slice u.FA u.d.f.length u.fc, .slice v.FA u.d.f.length v.fc] w1 fun e w' => e = .returned (.bool true) ∧ Below w1.heap.size w1 w') := fun w1 hb =>
    rf_SameN u.FA v.FA u.d.f u.d.f u.fc v.fc _ _ w1 rfl rfl n4 rfl (hu.f.grow hb) (by have := hv.f.grow hb; rw [hd] at this; exact this)
  have HD := Lib.hid hd
  clear hu hv n1 n2 n3 n4 hd eN eO
  go_enter Try.func11, Try.ntmps11
  go_upto_region 1 with fail
  obtain ⟨bx0, bz0, hb0⟩ := entrySS w u v _ rfl
  change Code.wp _ _ _ _ ((w.alloc (.cells u.cells.toArray 38)).alloc (.cells v.cells.toArray 38))
  generalize ((w.alloc (.cells u.cells.toArray 38)).alloc (.cells v.cells.toArray 38)) = W0 at bx0 bz0 hb0 ⊢
  go_wp2_with (first
    | ((with_reducible show wpList _ _ _ (Oper.mk _ (.load 31 _) _ _ _ _ :: _) _ _); first | (refine ld_net bx0 rfl _ rfl rfl ?_) | (refine ld_net bz0 rfl _ rfl rfl ?_) | (refine ld_oldW bx1 rfl _ rfl rfl ?_) | (refine ld_oldW bz1 rfl _ rfl rfl ?_))
    | (go_at_call 19; first
        | ((with_reducible refine (CN.out _ hb0).mono ?_); rintro e1 w1 ⟨rfl, hb1⟩; have bx1 := bx0.keep hb1; have bz1 := bz0.keep hb1; have hw1 := below_then hb0 hb1)
        | ((with_reducible refine (CO.out _ hw1).mono ?_); rintro e2 w2 ⟨rfl, hb2⟩; have bx2 := bx1.keep hb2; have bz2 := bz1.keep hb2; have hw2 := below_then hw1 hb2; obtain ⟨r1, r2, r3, r4, r5⟩ := bx2.rest; obtain ⟨q1, q2, q3, q4, q5⟩ := bz2.rest; rw [HD.out] at q1 q2))
    | (go_at_call 10; first
        | ((with_reducible refine (CS.out _ hw2).mono ?_); rintro e3 w3 ⟨rfl, hb3⟩; have bx3 := bx2.keep hb3; have bz3 := bz2.keep hb3; have hw3 := below_then hw2 hb3; clear r1 r2 r3 r4 r5 q1 q2 q3 q4 q5; obtain ⟨r1, r2, r3, r4, r5⟩ := bx3.rest; obtain ⟨q1, q2, q3, q4, q5⟩ := bz3.rest; rw [HD.out] at q1 q2)
        | ((with_reducible refine (CF.out _ hw3).mono ?_); rintro e4 w4 ⟨rfl, hb4⟩; have bx4 := bx3.keep hb4; have bz4 := bz3.keep hb4; have hw4 := below_then hw3 hb4; clear r1 r2 r3 r4 r5 q1 q2 q3 q4 q5; obtain ⟨r1, r2, r3, r4, r5⟩ := bx4.rest; obtain ⟨q1, q2, q3, q4, q5⟩ := bz4.rest; rw [HD.out] at q1 q2 q3 q4 q5)))
  go_ret
  exact ⟨rfl, hw4⟩
end Go.Proofs.Ytodnbekeidbknaa
end
