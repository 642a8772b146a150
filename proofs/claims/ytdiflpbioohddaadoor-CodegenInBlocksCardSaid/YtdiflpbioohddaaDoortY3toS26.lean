/- Several texts in one: Y3 Cw S26. -/
import Derived.Test.YtdiflpbioohddaaDoortS10toTg
import Derived.Laws.Tables
import Derived.Test.YtdiflpbioohddaaDoortU2toCr
import Derived.Test.YtdiflpbioohddaaDoortCv
import Derived.Test.YtdiflpbioohddaaDoortCs
import Derived.Test.YtdiflpbioohddaaDoortCtoCa
import Derived.Test.YtdiflpbioohddaaDoortU5toS3
set_option linter.unusedVariables false
set_option linter.unusedSimpArgs false
section
namespace Go.Proofs.YtdiflpbioohddaaDoor
open Go.RowKit
def runD (n : NetD) (s : List Int) : StrD := ⟨n, NetD.zero, s, [], 0, 0, 0⟩
theorem runD_good {n : NetD} {s : List Int} (h : n.ok = true) (hs : n.state s = true) : (runD n s).Good :=
 ⟨h, hs, (show (0 : Int) ≤ 0 ∧ (0 : Int) ≤ 1099511627776 by decide), (show (0 : Int) ≤ 0 ∧ (0 : Int) ≤ 4096 by decide), (show (0 : Int) ≤ 0 ∧ (0 : Int) ≤ 0 by decide), .inl ⟨rfl, rfl, NetD.isZero_iff.2 rfl, rfl⟩⟩
theorem runD_out {n : NetD} {s x : List Int} {k : Nat} {y : Int} : (runD n s).outY x k y = n.outp ((runD n s).stS x k) y := outY_off (by show ¬ (k : Int) < 0; omega)
theorem own_under {w w' : World} {base n size b : Nat} {e : TypeId} {v : Value} {xs : List Value} (h : w.ownsRow base e size v n xs) (hb : Below b w w') (hv : ∀ q, v.ownBlock = some q → q < b) : w'.ownsRow base e size v n xs := by
 obtain ⟨h1, h2 | ⟨g, cap, cur, hv', hg, hh, r⟩⟩ := h
 ·exact ⟨h1, .inl h2⟩
 ·have hlt : g < b := hv g (by rw [hv']; rfl)
  exact ⟨h1, .inr ⟨g, cap, cur, hv', hg, (hb.block g hlt).trans hh, r⟩⟩
theorem Own.under {base b : Nat} {w w' : World} {v : Value} {l : List Int} (h : Own base w v l) (hb : Below b w w') (hv : ∀ q, v.ownBlock = some q → q < b) : Own base w' v l := ⟨own_under h.1 hb hv, h.2⟩
theorem Own.intsF {base n c : Nat} {w : World} {A : Option Addr} {l : List Int} (h : Own base w (.slice A n c) l) : IntsF base w A l ∧ l.length = n := by
 obtain ⟨A', c', e, -, hi⟩ := h.form
 injection e with e1 e2 e3
 subst e1 e2 e3
 exact ⟨IntsF.own h, rfl⟩
def NetD.cntS (n : NetD) (s x : List Int) : Nat → Int
 | 0 => 0
 | k + 1 => n.cntS s x k + (match x[k]? with | some y => if overF n.d0 n.d1 n.d2 n.d3 n.c1 n.ns (y :: (runD n s).stS x k) n.ns.length = true then 1 else 0 | none => 0)
theorem cntS_succ {n : NetD} {s x : List Int} {k : Nat} {y : Int} (h : x[k]? = some y) : n.cntS s x (k + 1) = n.cntS s x k + (if overF n.d0 n.d1 n.d2 n.d3 n.c1 n.ns (y :: (runD n s).stS x k) n.ns.length = true then 1 else 0) := by
 show n.cntS s x k + (match x[k]? with | some y => _ | none => _) = _
 rw [h]
def RetRunC (w : World) (O S : List Int) (C : Int) (e : Ending) (w' : World) : Prop := ∃ (A B : Option Addr) (c b : Nat), e = .returned (.tuple #[.slice A O.length c, .slice B S.length b, .int .i64 C, .int .i64 0]) ∧ IntsF w.heap.size w' A O ∧ IntsF w.heap.size w' B S ∧ Below w.heap.size w w'
theorem ld_netB1 {ops : Array Oper} {rest : List Oper} {o : Oper} {a : Act} {Q : Exit → Act → World → Prop} {w : World} {cs : List Value} {g : Nat} (hb : Box w g cs) (hl : cs.length = 12) (hgd : o.guard = none) (x : Operand) (ho : o.op = .load 27 x) (hx : a.eval x = .pointer (some ⟨g, 0, none⟩)) (h : wpList Tryd.prog ops Q rest (a.put o.dst (.agg cs.toArray)) w) : wpList Tryd.prog ops Q (o :: rest) a w := by
 obtain ⟨d, h1, h2⟩ := row_net
 exact wp_ld hgd _ x ho g 0 hx hb cs (fun j v hj => by rw [Nat.zero_add]; exact hj) d h1 h2 (by rw [hl]; exact size_net) h
theorem entryN1 (w : World) (n : NetD) (NA : Option Addr) (nc : Nat) (XA : Option Addr) (xc : Nat) : ∀ W, W = (w.alloc (.cells (n.lst NA nc XA xc).toArray 27)) →
  Box W w.heap.size (n.lst NA nc XA xc) ∧ Below w.heap.size w W ∧ w.heap.size + 1 ≤ W.heap.size := fun W hW => by
 subst hW
 exact ⟨Box.new rfl, (Below.refl w.heap.size w).alloc (Nat.le_refl _) _, by simp⟩
set_option maxRecDepth 100000 in
set_option maxHeartbeats 8000000 in
theorem nw_RunC (n : NetD) (NA XA : Option Addr) (nc xc : Nat) (s : List Int) (SA : Option Addr) (sn sc : Nat) (x : List Int) (IA : Option Addr) (xn ic : Nat) (w : World) (hn : NetAt w n NA XA) (hok : n.ok = true) (hst : n.state s = true) (hsn : s.length = sn) (hS : Ints w SA s) (hX : Ints w IA x) (hf : n.fit x = true) (hxn : x.length = xn) (hx4 : xn ≤ 4096) :
  Calls Tryd.prog 21 #[.agg (n.lst NA nc XA xc).toArray, .slice SA sn sc, .slice IA xn ic] w (RetRunC w ((runD n s).outS x xn) ((runD n s).stS x xn) (n.cntS s x xn)) := by
 obtain ⟨p1, -, ⟨p2, p3⟩, p4, p5, -, p7, p8, p9⟩ := netB_parts hok
 have hG := runD_good hok hst
 obtain ⟨s1, s2⟩ := state_iff.1 hst
 have hs64 : sn ≤ 64 := by omega
 obtain ⟨q, hq⟩ : ∃ q : Nat, n.out = (q : Int) := ⟨n.out.toNat, by omega⟩
 have CV : Hid (∀ w1, Below w.heap.size w w1 → Calls Tryd.prog 34 #[.agg (n.lst NA nc XA xc).toArray] w1 fun e w' => e = .returned (.bool true) ∧ Below w1.heap.size w1 w') := fun w1 hb => by
  have h := hn.grow hb
  have := nw_Valid n.d0 n.d1 n.d2 n.d3 n.c0 n.c1 n.c2 n.c3 n.st n.out NA XA nc xc n.ns n.nx w1 h.nodes h.next h.n1 h.n2 h.n3 h.st
  rw [show netB _ _ _ _ _ _ _ _ _ _ _ _ = true from hok] at this; exact this
 have CW : Hid (∀ w1, Below w.heap.size w w1 → Calls Tryd.prog 52 #[.agg (n.lst NA nc XA xc).toArray, .slice SA sn sc, .slice IA xn ic] w1 fun e w' => e = .returned (.int .i64 0) ∧ Below w1.heap.size w1 w') := fun w1 hb => by
  have h := hn.grow hb
  exact nw_wrong n.d0 n.d1 n.d2 n.d3 n.c0 n.c1 n.c2 n.c3 n.st n.out NA XA SA IA nc xc sn sc xn ic n.ns n.nx s x w1 h.nodes h.next (hS.grow hb) (hX.grow hb) hsn hxn (by omega) (by omega) (by omega) s2 (List.all_eq_true.1 hf)
 have CC : Hid (∀ w1 l A y, Below w.heap.size w w1 → Ints w1 A l → n.state l = true → fitsW n.d0 n.d1 n.d2 n.d3 y = true → Calls Tryd.prog 53 #[.agg (n.lst NA nc XA xc).toArray, .slice A sn sn, .int .i64 y] w1 fun e w' => ∃ B b, e = .returned (.tuple #[.slice B (n.vals l y).length b, .bool (overF n.d0 n.d1 n.d2 n.d3 n.c1 n.ns (y :: l) n.ns.length)]) ∧ IntsF w1.heap.size w' B (n.vals l y) ∧ Below w1.heap.size w1 w') := fun w1 l A y hb hi hl hy => by
  have h := hn.grow hb
  obtain ⟨l1, l2⟩ := state_iff.1 hl
  refine (nw_compute n.d0 n.d1 n.d2 n.d3 n.c0 n.c1 n.c2 n.c3 n.st n.out y NA XA A nc xc sn sn n.ns n.nx l w1 hok h.nodes h.next hi (by omega) (by omega) l2 hy).mono ?_
  rintro e w' ⟨v, rfl, ho, hb⟩
  obtain ⟨B, b, rfl, -, -⟩ := ho.form
  exact ⟨B, b, rfl, IntsF.own ho, hb⟩
 have CF : Hid (∀ w1 l A b y, Below w.heap.size w w1 → Ints w1 A (n.vals l y) → n.state l = true → Calls Tryd.prog 54 #[.agg (n.lst NA nc XA xc).toArray, .slice A (n.vals l y).length b] w1 fun e w' => ∃ B b, e = .returned (.slice B sn b) ∧ IntsF w1.heap.size w' B (n.follow l y) ∧ Below w1.heap.size w1 w') := fun w1 l A b y hb hi hl => by
  have h := hn.grow hb
  obtain ⟨l1, l2⟩ := state_iff.1 hl
  have hvl : (n.vals l y).length = 1 + l.length + n.ns.length := vals_at hok l1
  refine (nw_follow n.d0 n.d1 n.d2 n.d3 n.c0 n.c1 n.c2 n.c3 n.st n.out NA XA A nc xc _ b n.ns n.nx (n.vals l y) w1 h.nodes h.next hi rfl (by omega) p5 (by omega) (fun v hv => by have := p7 v hv; omega)).mono ?_
  rintro e w' ⟨v, rfl, ho, hb⟩
  obtain ⟨B, b', rfl, -, -⟩ := ho.form
  have e : (followF n.nx (n.vals l y)).length = sn := by unfold followF; rw [List.length_map]; omega
  exact ⟨B, b', by rw [e], IntsF.own ho, hb⟩
 have HST : Hid (∀ k, k ≤ xn → n.state ((runD n s).stS x k) = true) := fun k hk => stS_state hG hf k (by omega)
 have HLN : Hid (∀ l, n.state l = true → l.length = sn) := fun l hl => by have := (state_iff.1 hl).1; omega
 have HVL : Hid (∀ l y, n.state l = true → q < (n.vals l y).length ∧ (n.vals l y).length ≤ 1000) := fun l y hl => by
  have l1 := (state_iff.1 hl).1
  have hvl : (n.vals l y).length = 1 + l.length + n.ns.length := vals_at hok l1
  omega
 have HFX := Lib.hid (List.all_eq_true.1 hf)
 have HQ := Lib.hid hq
 have HX := Lib.hid hX
 have HS := Lib.hid hS
 have HXN := Lib.hid hxn
 have HSN := Lib.hid hsn
 have HOK := Lib.hid hok
 have hxx : (xn : Int) ≤ 4096 := by omega
 clear hn hok hst hS hX hf hxn hsn p1 p2 p3 p4 p5 p7 p8 p9 hG s1 s2 hq
 go_enter Tryd.func21, Tryd.ntmps21
 go_upto_region 1 with fail
 obtain ⟨bx0, hb0, hs0⟩ := entryN1 w n NA nc XA xc _ rfl
 change Code.wp _ _ _ _ (w.alloc (.cells (n.lst NA nc XA xc).toArray 27))
 generalize (w.alloc (.cells (n.lst NA nc XA xc).toArray 27)) = W0 at bx0 hb0 hs0 ⊢
 go_upto_region 8 with (first
  | ((with_reducible show wpList _ _ _ (Oper.mk _ (.load _ _) _ _ _ _ :: _) _ _); first | (refine ld_netB1 bx0 rfl rfl _ rfl rfl ?_) | (refine ld_netB1 bx1 rfl rfl _ rfl rfl ?_))
  | (go_at_call 34; (with_reducible refine (CV.out _ hb0).mono ?_); rintro e1 w1 ⟨rfl, hb1⟩; have bx1 := Box.keep bx0 hb1; have hw1 := below_then hb0 hb1)
  | (go_at_call 52; (with_reducible refine (CW.out _ hw1).mono ?_); rintro e2 w2 ⟨rfl, hb2⟩; have bx2 := Box.keep bx1 hb2; have hw2 := below_then hw1 hb2))
 have hs2 : w.heap.size + 1 ≤ w2.heap.size := Nat.le_trans hs0 (Nat.le_trans hb1.size hb2.size)
 clear bx0 hb0 hs0 bx1 hw1 hb1 hb2
 go_upto_region 9 with (at_make; refine mk_int rfl _ _ rfl (w.heap.size + 1) sn rfl rfl rfl (by omega) hs2 ?_; intro w3 ho3 hb3)
 have hgl := ho3.block
 have hw3 := below_then hw2 hb3
 have bx3 := Box.keep bx2 hb3
 generalize w2.heap.size = g at ho3 hgl ⊢
 clear hw2 bx2 hb3
 go_upto_region 10 with ((with_reducible show wpList _ _ _ (Oper.mk _ (.call ⟨.builtin .copy, _, _⟩) _ _ _ _ :: _) _ _); refine copy_full rfl _ _ rfl rfl rfl ho3 List.length_replicate (HS.out.grow hw3) HSN.out ?_; intro w4 ho4 pg4)
 have hw4 := put_facts hw3 (by omega) pg4
 have bx4 := Box.grown bx3 pg4 (by intro e; injection e with e; omega)
 have hs4 : g + 1 ≤ w4.heap.size := Nat.le_trans hgl.2 pg4.size
 clear hw3 bx3 ho3 pg4
 go_upto_region 11 with (at_make; refine mk_int0 rfl _ _ rfl (g + 1) xn rfl rfl rfl (by omega) hs4 ?_; intro w5 ho5 hb5)
 have HW5 := Lib.hid (below_then hw4 hb5)
 have BX5 := Lib.hid (Box.keep bx4 hb5)
 have HN5 := Lib.hid (ho4.grow hb5)
 have HO5 := Lib.hid ho5
 clear hw4 bx4 ho4 hb5 ho5 hs4 hs2
 go_wp2_with fail
 go_loopw [12, 13, 42] (fun v c i wr => ∃ (k cnt : Nat), k ≤ xn ∧ cnt ≤ k ∧ i = .int .i64 k ∧ c = .int .i64 cnt ∧ Hid ((cnt : Int) = n.cntS s x k) ∧ Hid (Own (g + 1) wr v ((runD n s).outS x k)) ∧ Hid (Own (w.heap.size + 1) wr (.slice (some ⟨g, 0, none⟩) sn sn) ((runD n s).stS x k)) ∧ Hid (Below w.heap.size w wr) ∧ Hid (Box wr w.heap.size (n.lst NA nc XA xc))) (fun _ _ i _ => xn - (intOf i).toNat)
 case atStart => exact ⟨0, 0, Nat.zero_le _, Nat.le_refl _, rfl, rfl, Lib.hid rfl, HO5, HN5, HW5, BX5⟩
 case round =>
  obtain ⟨k, cnt, hk, hcnt, rfl, rfl, HCN, HO, HNW, HB, HBX⟩ := hrel
  by_cases hlt : ¬ k < xn
  ·obtain rfl : k = xn := by omega
   have hlo3 : ¬ (k : Int) < (k : Int) := by omega
   obtain ⟨A, c, ev, -, -⟩ := HO.out.form
   have HOO := HO.out
   rw [ev] at HOO
   have HIF := Lib.hid ((IntsF.own HOO).base (b' := w.heap.size) (by omega))
   subst ev
   have HNF := Lib.hid ((HNW.out.intsF).1.base (b' := w.heap.size) (by omega))
   have hl := (HNW.out.intsF).2
   clear HOO
   go_wp2_with fail
   refine bodyPost_ret (results_tmp4 rfl _ _ _) rfl ?_
   exact ⟨A, some ⟨g, 0, none⟩, c, sn, by rw [hl, ← HCN.out]; rfl, HIF.out, HNF.out, HB.out⟩
  ·have hlt := Classical.not_not.1 hlt
   obtain ⟨ad, y, rfl, hba, hy, hcy, y1, y2⟩ := (HX.out.grow HB.out).at_ (k := k) (by rw [HXN.out]; exact hlt)
   have HFY : Hid (fitsW n.d0 n.d1 n.d2 n.d3 y = true) := HFX.out _ (List.mem_of_getElem? hy)
   have hsl := HST.out k (by omega)
   obtain ⟨l, hl⟩ : ∃ l, (runD n s).stS x k = l := ⟨_, rfl⟩
   rw [hl] at hsl HNW
   have HYS := Lib.hid (outS_succ (d := runD n s) hy)
   have HCS := Lib.hid (cntS_succ (n := n) (s := s) hy)
   rw [hl] at HCS
   obtain ⟨ov, hov⟩ : ∃ o, overF n.d0 n.d1 n.d2 n.d3 n.c1 n.ns (y :: l) n.ns.length = o := ⟨_, rfl⟩
   have HOV := Lib.hid hov
   clear hov
   have HYT : Hid ((runD n s).stS x (k + 1) = n.follow l y) := by show _ = _; rw [stS_succ hy, hl]; rfl
   have HYO : Hid ((runD n s).outY x k y = n.outp l y) := by show _ = _; rw [runD_out, hl]
   obtain ⟨vl1, vl2⟩ := HVL.out l y hsl
   obtain ⟨Y, hY⟩ : ∃ Y, (n.vals l y)[q]? = some Y := ⟨_, List.getElem?_eq_getElem vl1⟩
   have HYY : Hid (n.outp l y = Y) := by
    show atF (n.vals l y) n.out = Y
    rw [HQ.out]; exact atF_nat hY
   have HY := Lib.hid hY
   have HSL := Lib.hid hsl
   have hoy : (((runD n s).outS x k).length : Nat) = k := outS_length k (by rw [HXN.out]; omega)
   have HOY : Hid (((runD n s).outS x k).length < 100000000) := by show _ < _; omega
   have q1 : (0 : Int) ≤ (k : Int) := by omega
   have q2 : (k : Int) < (xn : Int) := by omega
   obtain ⟨vn, hvn⟩ : ∃ m, (n.vals l y).length = m := ⟨_, rfl⟩
   rw [hvn] at vl1 vl2
   have HVN := Lib.hid hvn
   have CC1 : Hid (∀ w1, Below wr.heap.size wr w1 → Calls Tryd.prog 53 #[.agg (n.lst NA nc XA xc).toArray, .slice (some ⟨g, 0, none⟩) sn sn, .int .i64 y] w1 fun e w' => ∃ B b, e = .returned (.tuple #[.slice B vn b, .bool ov]) ∧ IntsF w1.heap.size w' B (n.vals l y) ∧ Below w1.heap.size w1 w') := fun w1 hb => by
    have := CC.out w1 l (some ⟨g, 0, none⟩) y (below_then HB.out hb) ((HNW.out.grow hb).intsF).1.1 HSL.out HFY.out
    rw [HVN.out, HOV.out] at this; exact this
   have CF1 : Hid (∀ w1 A b, Below wr.heap.size wr w1 → Ints w1 A (n.vals l y) → Calls Tryd.prog 54 #[.agg (n.lst NA nc XA xc).toArray, .slice A vn b] w1 fun e w' => ∃ B b, e = .returned (.slice B sn b) ∧ IntsF w1.heap.size w' B (n.follow l y) ∧ Below w1.heap.size w1 w') := fun w1 A b hb hi => by
    have := CF.out w1 l A b y (below_then HB.out hb) hi HSL.out
    rw [HVN.out] at this; exact this
   have hfl : (n.follow l y).length = sn := by
    have h1 := HST.out (k + 1) (by omega)
    rw [HYT.out] at h1
    exact HLN.out _ h1
   have HFL := Lib.hid hfl
   have HLL := Lib.hid (HLN.out l hsl)
   clear hy hl hsl hY hoy hvn hfl hba
   go_upto_region 16 with (first
    | ((with_reducible show wpList _ _ _ (Oper.mk _ (.load 27 _) _ _ _ _ :: _) _ _); refine ld_netB1 HBX.out rfl rfl _ rfl rfl ?_)
    | (go_at_call 53; (with_reducible refine (CC1.out _ (Below.refl _ _)).mono ?_); rintro e6 w6 ⟨VB, vb, rfl, hv6, hb6⟩))
   have bx6 := Box.keep HBX.out hb6
   have hi6 := hv6.1
   go_upto_region 17 with (first
    | ((with_reducible show wpList _ _ _ (Oper.mk _ (.load 27 _) _ _ _ _ :: _) _ _); refine ld_netB1 bx6 rfl rfl _ rfl rfl ?_)
    | (go_at_call 54; (with_reducible refine (CF1.out _ VB vb hb6 hi6).mono ?_); rintro e7 w7 ⟨FB, fb, rfl, hf7, hb7⟩; have ho7 := (HNW.out.grow hb6).grow hb7)
    | ((with_reducible show wpList _ _ _ (Oper.mk _ (.call ⟨.builtin .copy, _, _⟩) _ _ _ _ :: _) _ _); refine copy_full rfl _ _ rfl rfl rfl ho7 HLL.out hf7.1 HFL.out ?_; intro w8 ho8 pg8))
   have hv8 := ((hv6.grow hb7).away pg8 (HNW.out.block).2)
   have bx8 := Box.grown (Box.keep bx6 hb7) pg8 (by intro e; injection e with e; omega)
   have hw8 := put_facts (below_then (below_then HB.out hb6) hb7) (by omega) pg8
   have hq8 := own_away ((HO.out.grow hb6).grow hb7) pg8 (Nat.lt_succ_self _)
   obtain ⟨vd, Y', rfl, -, hY', hcv, i1, i2⟩ := hv8.1.at_ (k := q) (by rw [HVN.out]; exact vl1)
   obtain rfl : Y' = Y := by rw [HY.out] at hY'; injection hY' with h; exact h.symm
   have hs8 : g + 1 ≤ w8.heap.size := by have := HNW.out.block; have := hb6.size; have := hb7.size; have := pg8.size; omega
   have c11 : w8.cell? ⟨w.heap.size, 11, none⟩ = some (.int .i64 n.out) := bx8.2.1 11
   rw [HQ.out] at c11
   have HV8 := Lib.hid hv8
   clear hv8 hY'
   go_upto_region 18 with (at_builtin; refine app_int w8 rfl _ _ rfl (g + 1) hq8 rfl rfl HOY.out hs8 (y := Y') ⟨i1, i2⟩ ?_; intro v9 w9 ho9 hb9)
   have hn9 := ho8.under hb9 (fun r hr => by have hr : some g = some r := hr; injection hr with hr; omega)
   have bx9 := Box.block bx8 (hb9.block _ (by omega)) hb9.size
   have hw9 := hw8.trans (hb9.mono (by omega))
   rcases ov with _ | _
   all_goals
    go_wp2_with fail
    go_roundw
   case rel => exact ⟨k + 1, cnt, by omega, by omega, by go_num, rfl, Lib.hid (by rw [HCS.out, HOV.out, ← HCN.out]; simp), by rw [HYS.out, HYO.out, HYY.out]; exact ho9, by rw [HYT.out]; exact hn9, hw9, bx9⟩
   case measure => simp [intOf]; omega
   case rel => exact ⟨k + 1, cnt + 1, by omega, by omega, by go_num, by go_num, Lib.hid (by rw [HCS.out, HOV.out, ← HCN.out]; simp), by rw [HYS.out, HYO.out, HYY.out]; exact ho9, by rw [HYT.out]; exact hn9, hw9, bx9⟩
   case measure => simp [intOf]; omega
end Go.Proofs.YtdiflpbioohddaaDoor
end
section
namespace Go.Proofs.YtdiflpbioohddaaDoor
open Go.RowKit
theorem cg_last (st : Int) (ns : List (List (Int × Int))) : ∀ k, 0 ≤ (genC st ns k).2 ∧ (genC st ns k).2 ≤ 6
 | 0 => ⟨Int.le_refl _, by show (0 : Int) ≤ 6; decide⟩
 | k + 1 => by
  have h := nextR_in (cg_last st ns k).1
  show 0 ≤ nextR (genC st ns k).2 ∧ nextR (genC st ns k).2 ≤ 6
  omega
theorem cg_len {st : Int} {ns : List (List (Int × Int))} (h : ∀ (k : Nat) ts, ns[k]? = some ts → ts.length ≤ 64) : ∀ k, (genC st ns k).1.length ≤ 1 + 67 * k
 | 0 => by show 1 ≤ 1; omega
 | k + 1 => by
  have h1 := cg_len h k (st := st)
  have h2 : (ns.getD k []).length ≤ 64 := by
   rw [List.getD_eq_getElem?_getD]
   cases e : ns[k]? with
   | none => simp
   | some ts => exact h k ts e
  show ((genC st ns k).1 ++ nodeI (nextR (genC st ns k).2) (st + k) (ns.getD k [])).length ≤ _
  unfold nodeI
  simp only [List.length_append, List.length_cons, List.length_map, List.length_nil]
  omega
theorem advGo_len {src : List Int} : ∀ f (s : AdvS), AdvW src s → (advGo src f s).code.length ≤ s.code.length + 3 * advM src s
 | 0, s, _ => by show s.code.length ≤ _; omega
 | f + 1, s, hw => by
  by_cases h0 : s.left = 0
  ·rw [adv_stop h0]; omega
  ·rw [adv_next h0]
   have h1 := advGo_len f _ hw.round
   have h2 := round_len hw h0
   omega
theorem advF_len {code : List Ins} {last : Int} {src : List Int} : (advF code last src).code.length ≤ code.length + 3 * (2 * src.length + 1) := by
 have h1 := advGo_len (2 * src.length + 1) _ (adv0_w (code := code) (last := last) (src := src))
 have h2 := adv0_m (code := code) (last := last) (src := src)
 have h3 : (adv0 code last src).code.length = code.length := rfl
 unfold advF
 omega
def PrgD.zero : PrgD := ⟨0, 0, 0, 0, 0, 0, 0, 0, [], []⟩
def PrgA.zero : PrgA := ⟨PrgD.zero, none, none, 0, 0⟩
theorem entryNP (w : World) (L : List Value) : ∀ W, W = ((w.alloc (.cells L.toArray 27)).alloc (.cells zeros10.toArray 41)) → W.heap[w.heap.size]? = some (.cells L.toArray 27 (0, 0)) ∧ W.heap[w.heap.size + 1]? = some (.cells zeros10.toArray 41 (0, 0)) ∧ Below w.heap.size w W ∧ W.heap.size = w.heap.size + 2 := fun W hW => by
 subst hW
 have h1 := heap_new w (.cells L.toArray 27)
 have h2 := heap_new (w.alloc (.cells L.toArray 27)) (.cells zeros10.toArray 41)
 have hs : (w.alloc (.cells L.toArray 27)).heap.size = w.heap.size + 1 := by simp
 rw [hs] at h2
 exact ⟨heap_keep ((Below.refl _ _).alloc (Nat.le_refl _) _) h1, h2, ((Below.refl w.heap.size w).alloc (Nat.le_refl _) _).alloc (by simp) _, by simp⟩
theorem box_heap {w : World} {g : Nat} {a : Array Value} {t : TypeId} (h : w.heap[g]? = some (.cells a t (0, 0))) : Box w g a.toList := ⟨lt_heap h, fun k => by rw [cell_heap h]; simp, fun k => frozen_heap h⟩
set_option maxRecDepth 100000 in
set_option maxHeartbeats 8000000 in
theorem cg_Compile_ok (n : NetD) (NA XA : Option Addr) (nc xc : Nat) (w : World) (hf : FormsAt w) (hn : NetAt w n NA XA) (hok : n.ok = true) (hv : validB n.prg = true) :
  Calls Tryd.prog 10 #[.agg (n.lst NA nc XA xc).toArray] w (RetPrgE w n.prg 0) := by
 have CV : Hid (∀ w1, Below w.heap.size w w1 → Calls Tryd.prog 34 #[.agg (n.lst NA nc XA xc).toArray] w1 fun e w' => e = .returned (.bool true) ∧ Below w1.heap.size w1 w') := fun w1 hb => by
  have h := hn.grow hb
  have := nw_Valid n.d0 n.d1 n.d2 n.d3 n.c0 n.c1 n.c2 n.c3 n.st n.out NA XA nc xc n.ns n.nx w1 h.nodes h.next h.n1 h.n2 h.n3 h.st
  rw [show netB _ _ _ _ _ _ _ _ _ _ _ _ = true from hok] at this; exact this
 obtain ⟨-, -, ⟨p2, p3⟩, p4, p5, p6, p7, p8, p9⟩ := netB_parts hok
 have HP6 := Lib.hid p6
 have HP7 := Lib.hid p7
 have HN := Lib.hid hn
 have HF := Lib.hid hf
 have HV := Lib.hid hv
 obtain ⟨m, hm⟩ : ∃ m, n.ns.length = m := ⟨_, rfl⟩
 have HM := Lib.hid hm
 obtain ⟨L, hL⟩ : ∃ L, n.lst NA nc XA xc = L := ⟨_, rfl⟩
 have HL := Lib.hid hL
 have HLL : Hid (L.length = 12) := Lib.hid (by rw [← hL]; rfl)
 rw [hL] at CV ⊢
 have HP5 := Lib.hid p5
 clear hL hn hf hv p6 p7 hok hm p5
 go_enter Tryd.func10, Tryd.ntmps10
 go_upto_region 1 with fail
 obtain ⟨bn, bp, hb0, hsz⟩ := entryNP w L _ rfl
 change Code.wp _ _ _ _ ((w.alloc (.cells L.toArray 27)).alloc (.cells zeros10.toArray 41))
 generalize ((w.alloc (.cells L.toArray 27)).alloc (.cells zeros10.toArray 41)) = W0 at bn bp hb0 hsz ⊢
 have HBN := Lib.hid bn
 have HBP := Lib.hid bp
 have HB0 := Lib.hid hb0
 clear bn bp hb0
 go_upto_region 3 with (first
  | ((with_reducible show wpList _ _ _ (Oper.mk _ (.load 27 _) _ _ _ _ :: _) _ _); refine ld_netB1 (box_heap HBN.out) (by simpa using HLL.out) rfl _ rfl rfl ?_)
  | (go_at_call 34; (with_reducible refine (CV.out _ HB0.out).mono ?_); rintro e1 w1 ⟨rfl, hb1⟩; have HB1 := Lib.hid hb1; clear hb1))
 have HBN1 := Lib.hid (heap_keep HB1.out HBN.out)
 have HBP1 := Lib.hid (heap_keep HB1.out HBP.out)
 have HW1 := Lib.hid (below_then HB0.out HB1.out)
 have hs1 : w.heap.size + 2 ≤ w1.heap.size := by have := HB1.out.size; omega
 clear HBN HBP HB0 HB1 CV hsz
 have HBX : Hid (Box w1 w.heap.size [.int .i64 n.d0, .int .i64 n.d1, .int .i64 n.d2, .int .i64 n.d3, .int .i64 n.c0, .int .i64 n.c1, .int .i64 n.c2, .int .i64 n.c3, .int .i64 n.st, .slice NA n.ns.length nc, .slice XA n.nx.length xc, .int .i64 n.out]) := Lib.hid (by
  have h := box_heap HBN1.out
  rw [← HL.out] at h
  exact h)
 go_upto_region 4 with ((with_reducible show wpList _ _ _ (Oper.mk _ (.load 27 _) _ _ _ _ :: _) _ _); refine ld_netB1 HBX.out rfl rfl _ rfl rfl ?_)
 have hWe : w1.alloc (.cells #[.slice none 0 0, .int .i64 n.d0, .int .i64 n.d1, .int .i64 n.d2, .int .i64 n.d3, .int .i64 n.c0, .int .i64 n.c1, .int .i64 n.c2, .int .i64 n.c3, .int .i64 n.st, .slice NA n.ns.length nc, .slice XA n.nx.length xc, .int .i64 n.out, .int .i64 0] 86) = w1.alloc (.cells (Value.slice none 0 0 :: genR L 0).toArray 86) := by rw [← HL.out]; rfl
 rw [hWe]
 clear hWe
 have hnew := heap_new w1 (.cells (Value.slice none 0 0 :: genR L 0).toArray 86)
 have hnb : Below w1.heap.size w1 (w1.alloc (.cells (Value.slice none 0 0 :: genR L 0).toArray 86)) := (Below.refl _ _).alloc (Nat.le_refl _) _
 have hW2 := below_then HW1.out hnb
 have hkn := heap_keep hnb HBN1.out
 have hkp := heap_keep hnb HBP1.out
 obtain ⟨B, hB⟩ : ∃ b, b = w1.heap.size := ⟨_, rfl⟩
 rw [← hB] at hnew hs1 ⊢
 generalize w1.alloc (.cells (Value.slice none 0 0 :: genR L 0).toArray 86) = W2 at hnew hW2 hkn hkp ⊢
 obtain ⟨X, hX⟩ : ∃ X : List (Nat × Obj), X = [(w.heap.size, .cells L.toArray 27 (0, 0)), (w.heap.size + 1, .cells zeros10.toArray 41 (0, 0))] := ⟨_, rfl⟩
 have HG : Hid (GenAt w.heap.size B 86 (genR L 0) X W2 (.slice none 0 0) []) := Lib.hid (by
  refine ⟨hnew, OwnIR.nil, by omega, by decide, fun x hx => ?_⟩
  rw [hX] at hx
  rcases List.mem_cons.1 hx with rfl | hx
  ·exact ⟨hkn, by show w.heap.size ≠ B; omega, by show 27 ≠ 109; decide⟩
  ·obtain rfl := List.mem_singleton.1 hx
   exact ⟨hkp, by show w.heap.size + 1 ≠ B; omega, by show 41 ≠ 109; decide⟩)
 have HW2 := Lib.hid hW2
 have HXN : Hid (∀ W' v l R, GenAt w.heap.size B 86 R X W' v l → W'.heap[w.heap.size]? = some (.cells L.toArray 27 (0, 0)) ∧ W'.heap[w.heap.size + 1]? = some (.cells zeros10.toArray 41 (0, 0))) := Lib.hid fun W' v l R h => by
  have k := h.keep
  rw [hX] at k
  exact ⟨(k (w.heap.size, .cells L.toArray 27 (0, 0)) (by simp)).1, (k (w.heap.size + 1, .cells zeros10.toArray 41 (0, 0)) (by simp)).1⟩
 have HLE : Hid (∀ W' : World, W'.heap[w.heap.size]? = some (.cells L.toArray 27 (0, 0)) → Box W' w.heap.size [.int .i64 n.d0, .int .i64 n.d1, .int .i64 n.d2, .int .i64 n.d3, .int .i64 n.c0, .int .i64 n.c1, .int .i64 n.c2, .int .i64 n.c3, .int .i64 n.st, .slice NA m nc, .slice XA n.nx.length xc, .int .i64 n.out]) := Lib.hid fun W' h => by
  have h := box_heap h
  rw [← HL.out, ← HM.out] at *
  exact h
 clear hnew hnb hW2 hkn hkp hX HBX HBN1 HBP1 HW1 hB
 go_upto_region 5 with (go_at_call 35; (with_reducible refine (cg_emit 9 0 0 0 HG.out (ok_small (by omega) (by omega) (by omega) (by omega)) (by simp)).mono ?_); rintro e w3 ⟨rfl, hb3, v3, hg3⟩; have HG3 := Lib.hid hg3; have HW3 := Lib.hid (HW2.out.trans hb3); clear hg3 hb3)
 have zN := (HLE.out _ (HXN.out _ _ _ _ HG3.out).1).2.1 9
 have CN : Hid (∀ (k : Nat) ts w1 last v l, n.ns[k]? = some ts → Below w.heap.size w w1 → GenAt w.heap.size B 86 (genR L last) X w1 v l → l.length ≤ 500000 → 0 ≤ last ∧ last ≤ 6 → k ≤ 64 → Calls Tryd.prog 36 #[.pointer (some ⟨B, 0, none⟩), .int .i64 k] w1 (RetGen w.heap.size B 86 (genR L (nextR last)) X w1 (l ++ nodeI (nextR last) (n.st + k) ts))) := Lib.hid fun k ts w1 last v l hts hb hg hl hla hk => by
  have hg' := hg
  rw [← HL.out] at hg' ⊢
  obtain ⟨q1, q2⟩ := HP6.out k ts hts
  exact cg_node n NA XA nc xc HN.out.nodes hts hb hg' q1 hl ⟨p2, p3⟩ hk hla (fun t ht => by have := (q2 t ht).1; omega)
 have HG3' : Hid (GenAt w.heap.size B 86 (genR L (genC n.st n.ns 0).2) X w3 v3 (genC n.st n.ns 0).1) := HG3
 have hm64 : m ≤ 64 := by have := HM.out; omega
 go_wp2_with fail
 clear zN
 go_loopw [18] (fun i wr => ∃ (k : Nat) (vk : Value), k ≤ m ∧ i = .int .i64 k ∧ Hid (GenAt w.heap.size B 86 (genR L (genC n.st n.ns k).2) X wr vk (genC n.st n.ns k).1) ∧ Hid (Below w.heap.size w wr)) (fun i _ => m - (intOf i).toNat)
 case atStart => exact ⟨0, v3, Nat.zero_le _, rfl, HG3', HW3⟩
 case round =>
  obtain ⟨k, vk, hk, rfl, HGK, HWK⟩ := hrel
  by_cases hlt : k < m
  ·obtain ⟨ts, hts⟩ : ∃ ts, n.ns[k]? = some ts := ⟨_, List.getElem?_eq_getElem (by rw [HM.out]; exact hlt)⟩
   have HTS := Lib.hid hts
   have HSU : Hid (genC n.st n.ns (k + 1) = ((genC n.st n.ns k).1 ++ nodeI (nextR (genC n.st n.ns k).2) (n.st + k) ts, nextR (genC n.st n.ns k).2)) := Lib.hid (by
    have e : n.ns.getD k [] = ts := by rw [List.getD_eq_getElem?_getD, hts]; rfl
    show ((genC n.st n.ns k).1 ++ nodeI (nextR (genC n.st n.ns k).2) (n.st + k) (n.ns.getD k []), nextR (genC n.st n.ns k).2) = _
    rw [e])
   have HLK : Hid ((genC n.st n.ns k).1.length ≤ 500000) := Lib.hid (by
    have := cg_len (st := n.st) (ns := n.ns) (fun k ts h => (HP6.out k ts h).1) k
    omega)
   have HLA := Lib.hid (cg_last n.st n.ns k)
   clear hts
   go_wp2_with (go_at_call 36; (with_reducible refine (CN.out k ts _ _ _ _ HTS.out HWK.out HGK.out HLK.out HLA.out (by omega)).mono ?_); rintro e w5 ⟨rfl, hb5, v5, hg5⟩)
   go_roundw
   case rel => exact ⟨k + 1, v5, by omega, by go_num, Lib.hid (by rw [HSU.out]; exact hg5), Lib.hid (HWK.out.trans hb5)⟩
   case measure => simp [intOf]; omega
  ·obtain rfl : m = k := by omega
   have zO := (HLE.out _ (HXN.out _ _ _ _ HGK.out).1).2.1 11
   have HLA := Lib.hid (cg_last n.st n.ns m)
   have HLK : Hid ((genC n.st n.ns m).1.length ≤ 5000) := Lib.hid (by
    have := cg_len (st := n.st) (ns := n.ns) (fun k ts h => (HP6.out k ts h).1) m
    omega)
   have HBC : Hid (bodyC n.st n.out n.ns = ((genC n.st n.ns m).1 ++ fetchI n.out (genC n.st n.ns m).2 ++ [⟨10, fetchR n.out (genC n.st n.ns m).2, 0, 0⟩], fetchL n.out (genC n.st n.ns m).2)) := Lib.hid (by rw [← HM.out]; rfl)
   generalize genC n.st n.ns m = gc at HGK HLA HLK HBC
   have HOB : Hid (0 ≤ n.out ∧ n.out ≤ 1000000) := Lib.hid (by have := HM.out; omega)
   have hfr : 0 ≤ fetchR n.out gc.2 ∧ fetchR n.out gc.2 ≤ 6 := by
    have := nextR_in HLA.out.1
    unfold fetchR
    split <;> omega
   have HFL := Lib.hid (fetchL_in (v := n.out) HLA.out)
   have HLK2 : Hid ((gc.1 ++ fetchI n.out gc.2).length < 1000000) := Lib.hid (by
    have h1 : (fetchI n.out gc.2).length ≤ 1 := by unfold fetchI; split <;> simp
    have h2 := HLK.out
    rw [List.length_append]; omega)
   have HLK1 : Hid (gc.1.length < 1000000) := Lib.hid (by have := HLK.out; omega)
   obtain ⟨fr, hfe⟩ : ∃ f, fetchR n.out gc.2 = f := ⟨_, rfl⟩
   have HFE := Lib.hid hfe
   rw [hfe] at hfr
   clear hfe
   have HOK : Hid (⟨10, fr, 0, 0⟩ : Ins).ok := Lib.hid (ok_small (by omega) (by omega) (by omega) (by omega))
   go_upto_region 11 with (first
    | (go_at_call 37; (with_reducible refine (cg_fetch HGK.out HLL.out HLA.out HOB.out HLK1.out).mono ?_); rw [HFE.out]; rintro e w5 ⟨rfl, hb5, v5, hg5⟩; have HG5 := Lib.hid hg5; have HB5 := Lib.hid hb5; clear hg5 hb5)
    | (go_at_call 35; (with_reducible refine (cg_emit 10 fr 0 0 HG5.out HOK.out HLK2.out).mono ?_); rintro e w6 ⟨rfl, hb6, v6, hg6⟩; have HG6 := Lib.hid hg6; have HB6 := Lib.hid hb6; clear hg6 hb6))
   have HW6 := Lib.hid (HWK.out.trans (HB5.out.trans HB6.out))
   have HG7 : Hid (GenAt w.heap.size B 86 (genR L (bodyC n.st n.out n.ns).2) X w6 v6 (bodyC n.st n.out n.ns).1) := Lib.hid (by rw [HBC.out, HFE.out]; exact HG6.out)
   have HL7 : Hid ((bodyC n.st n.out n.ns).1.length ≤ 500000) := Lib.hid (by
    rw [HBC.out]
    have h2 := HLK2.out
    have h3 := HLK.out
    have h1 : (fetchI n.out gc.2).length ≤ 1 := by unfold fetchI; split <;> simp
    simp only [List.length_append, List.length_cons, List.length_nil]
    omega)
   have HLA7 : Hid (0 ≤ (bodyC n.st n.out n.ns).2 ∧ (bodyC n.st n.out n.ns).2 ≤ 6) := Lib.hid (by rw [HBC.out]; exact HFL.out)
   have HPR : Hid (n.prg.code = (advF (bodyC n.st n.out n.ns).1 (bodyC n.st n.out n.ns).2 n.nx).code ++ [⟨0, 0, 0, 0⟩]) := Lib.hid rfl
   clear HG6 HB5 HB6 HWK HGK zO HBC HFL HLK HLK1 HLK2 HLA HG5
   generalize bodyC n.st n.out n.ns = bc at HG7 HL7 HLA7 HPR
   have HX10 : Hid (L[10]? = some (.slice XA n.nx.length xc)) := Lib.hid (by rw [← HL.out]; rfl)
   have HN64 : Hid (n.nx.length ≤ 64) := Lib.hid (by have := HP5.out; omega)
   have HSR : Hid (∀ x ∈ n.nx, 0 ≤ x ∧ x ≤ 1000) := Lib.hid fun x hx => by
    have := HP7.out x hx
    have := HM.out
    omega
   have HAL : Hid ((advF bc.1 bc.2 n.nx).code.length < 1000000) := Lib.hid (by
    have := advF_len (code := bc.1) (last := bc.2) (src := n.nx)
    have := HL7.out
    have := HN64.out
    omega)
   go_upto_region 13 with (first
    | (go_at_call 38; (with_reducible refine (cg_advance XA xc HLL.out HX10.out HN.out.next HW6.out HG7.out HN64.out HL7.out HLA7.out HSR.out).mono ?_); rintro e w7 ⟨rfl, hb7, v7, hg7⟩; have HG8 := Lib.hid hg7; have HB7 := Lib.hid hb7; clear hg7 hb7)
    | (go_at_call 35; (with_reducible refine (cg_emit 0 0 0 0 HG8.out (ok_small (by omega) (by omega) (by omega) (by omega)) HAL.out).mono ?_); rw [← HPR.out]; rintro e w8 ⟨rfl, hb8, v8, hg8⟩; have HG9 := Lib.hid hg8; have HB8 := Lib.hid hb8; clear hg8 hb8))
   have HW8 := Lib.hid (HW6.out.trans (HB7.out.trans HB8.out))
   clear HG7 HG8 HB7 HB8 HW6 HPR HAL HSR HN64 HX10 HL7 HLA7
   obtain ⟨A, c, ev, hc, hi⟩ := HG9.out.own.form
   obtain ⟨cn, hcn⟩ : ∃ k, n.prg.code.length = k := ⟨_, rfl⟩
   have HCN := Lib.hid hcn
   rw [hcn] at ev
   subst ev
   have HI := Lib.hid hi
   have zL : w8.cell? ⟨B, 0, none⟩ = some (.slice A cn c) := by rw [cell_heap HG9.out.heap]; rfl
   have hbx := HLE.out _ (HXN.out _ _ _ _ HG9.out).1
   obtain ⟨z0, z1, z2, z3⟩ := (⟨hbx.2.1 0, hbx.2.1 1, hbx.2.1 2, hbx.2.1 3⟩ : _ ∧ _ ∧ _ ∧ _)
   obtain ⟨z4, z5, z6, z7⟩ := (⟨hbx.2.1 4, hbx.2.1 5, hbx.2.1 6, hbx.2.1 7⟩ : _ ∧ _ ∧ _ ∧ _)
   have HZP := Lib.hid (HXN.out _ _ _ _ HG9.out).2
   clear hc hi hcn hbx
   go_upto_region 14 with fail
   clear z0 z1 z2 z3 z4 z5 z6 z7 zL
   change Code.wp _ _ _ _ (w8.alloc (.cells (prgL n.d0 n.d1 n.d2 n.d3 n.c0 n.c1 n.c2 n.c3 (.slice none 0 0) (.slice A cn c)).toArray 41))
   have hQ := heap_new w8 (.cells (prgL n.d0 n.d1 n.d2 n.d3 n.c0 n.c1 n.c2 n.c3 (.slice none 0 0) (.slice A cn c)).toArray 41)
   have hnb : Below w8.heap.size w8 (w8.alloc (.cells (prgL n.d0 n.d1 n.d2 n.d3 n.c0 n.c1 n.c2 n.c3 (.slice none 0 0) (.slice A cn c)).toArray 41)) := (Below.refl _ _).alloc (Nat.le_refl _) _
   have hW9 := below_then HW8.out hnb
   have hI9 := HI.out.grow hnb
   have hP9 := heap_keep hnb HZP.out
   have hG9 := HG9.out.own.grow hnb
   obtain ⟨Q, hQe⟩ : ∃ b, b = w8.heap.size := ⟨_, rfl⟩
   rw [← hQe] at hQ ⊢
   generalize w8.alloc (.cells (prgL n.d0 n.d1 n.d2 n.d3 n.c0 n.c1 n.c2 n.c3 (.slice none 0 0) (.slice A cn c)).toArray 41) = W9 at hQ hW9 hI9 hP9 hG9 ⊢
   have HQ := Lib.hid (box_heap hQ)
   have HW9 := Lib.hid hW9
   have HI9 := Lib.hid hI9
   have HP9 := Lib.hid (box_heap hP9)
   have HO9 := Lib.hid hG9
   have HPH := Lib.hid hP9
   clear hQ hnb hW9 hI9 hP9 hG9 hQe HI HZP HG9 HW8
   have CP : Hid (Calls Tryd.prog 39 #[.agg (prgL n.d0 n.d1 n.d2 n.d3 n.c0 n.c1 n.c2 n.c3 (.slice none 0 0) (.slice A cn c)).toArray] W9 fun e w' => e = .returned (.bool true) ∧ Below W9.heap.size W9 w') := Lib.hid (by
    have h := pr_Valid (⟨n.prg, none, A, 0, c⟩ : PrgA) W9 (HF.out.grow HW9.out) ⟨fun k t h => by simp [NetD.prg, compD] at h, HI9.out⟩ (by show 0 ≤ _; omega) (by have := HCN.out; have := (valid_parts HV.out).2.2.1; show n.prg.code.length ≤ _; omega) HV.out
    have e : (⟨n.prg, none, A, 0, c⟩ : PrgA).v = .agg (prgL n.d0 n.d1 n.d2 n.d3 n.c0 n.c1 n.c2 n.c3 (.slice none 0 0) (.slice A cn c)).toArray := by
     rw [← HCN.out]; rfl
    rw [e] at h
    exact h)
   go_wp2_with (first
    | ((with_reducible show wpList _ _ _ (Oper.mk _ (.load 41 _) _ _ _ _ :: _) _ _); first | refine ld_prg (HQ.out.keep HB10.out) rfl rfl _ rfl rfl ?_ | refine ld_prg HQ.out rfl rfl _ rfl rfl ?_)
    | (go_at_call 39; (with_reducible refine CP.out.mono ?_); rintro e10 w10 ⟨rfl, hb10⟩; have HB10 := Lib.hid hb10; clear hb10)
    | ((with_reducible show wpList _ _ _ (Oper.mk none (.store 41 _ _) _ _ _ _ :: _) _ _); refine st_prgB (HP9.out.keep HB10.out) rfl (L := prgL n.d0 n.d1 n.d2 n.d3 n.c0 n.c1 n.c2 n.c3 (.slice none 0 0) (.slice A cn c)) rfl rfl rfl _ _ rfl rfl rfl ?_; intro w11 hb11 hg11))
   obtain ⟨dsc, hd1, hd2⟩ := row_prg
   refine bodyPost_ret (resCT rfl _ _ w11 (g := w.heap.size + 1) (v := .agg (prgL n.d0 n.d1 n.d2 n.d3 n.c0 n.c1 n.c2 n.c3 (.slice none 0 0) (.slice A cn c)).toArray) rfl (res_box _ hb11 dsc hd1 hd2 size_prg)) rfl ?_
   have hap := row_apart (HO9.out.grow HB10.out) (heap_keep HB10.out HPH.out) (show 41 ≠ 109 by decide)
   refine ⟨⟨n.prg, none, A, 0, c⟩, rfl, ?_, ⟨fun k t h => by simp [NetD.prg, compD] at h, (HI9.out.grow HB10.out).grown hg11 (fun a ha => by subst ha; intro e; exact hap e.symm)⟩, grown_to (below_then HW9.out HB10.out) hg11 (by omega)⟩
   rw [← HCN.out]; rfl
end Go.Proofs.YtdiflpbioohddaaDoor
end
section
namespace Go.Proofs.YtdiflpbioohddaaDoor
open Go.RowKit
theorem valid_words {d : PrgD} (h : validB d = true) : okW d.d0 d.d1 d.d2 d.d3 = true ∧ okW d.c0 d.c1 d.c2 d.c3 = true := by
 obtain ⟨h1, -⟩ := valid_parts h
 unfold okWD at h1
 exact Bool.and_eq_true_iff.1 h1
def mac0 (d : PrgD) : Mac := ⟨List.replicate 8 0, List.replicate 128 0, List.replicate d.rg.length 0, 0, 0⟩
theorem fitD_zero {d : PrgD} (h : okW d.d0 d.d1 d.d2 d.d3 = true) : fitD d 0 = true := by
 have := low_high d.d0 d.d1 d.d2 d.d3
 unfold fitD fitsW
 rw [h, Bool.true_and, inB_iff]
 have e1 : lowW d.d0 d.d1 d.d2 d.d3 ≤ 0 := by omega
 have e2 : 0 ≤ highW d.d0 d.d1 d.d2 d.d3 := by omega
 exact ⟨e1, e2⟩
theorem wordD_zero {d : PrgD} (h : okW d.d0 d.d1 d.d2 d.d3 = true) (n : Nat) : wordD d (List.replicate n 0) = true := by
 unfold wordD wordsB
 refine List.all_eq_true.2 fun y hy => ?_
 rw [(List.mem_replicate.1 hy).2]
 exact fitD_zero h
theorem getD_rep {n k : Nat} : (List.replicate n (0 : Int)).getD k 0 = 0 := by
 rw [List.getD_eq_getElem?_getD]
 by_cases h : k < n
 ·rw [List.getElem?_replicate, if_pos h]; rfl
 ·rw [List.getElem?_replicate, if_neg h]; rfl
theorem mac0_ok {d : PrgD} (h : validB d = true) : MacOk d (mac0 d) := by
 refine ⟨by simp [mac0], by simp [mac0], by simp [mac0], wordD_zero (valid_words h).1 _, wordD_zero (valid_words h).1 _, ?_⟩
 unfold headsB mac0
 refine List.all_eq_true.2 fun j hj => ?_
 have hj := List.mem_range.1 hj
 simp only [List.length_replicate] at hj
 rw [decide_eq_true_eq]
 have hr := ringIn_iff.1 (valid_ring h hj)
 simp only [getD_rep]
 omega
end Go.Proofs.YtdiflpbioohddaaDoor
end
