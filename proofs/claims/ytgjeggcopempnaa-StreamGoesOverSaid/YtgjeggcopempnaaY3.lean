/- The walk of Run of package network. -/
import Derived.Test.YtgjeggcopempnaaY0
import Derived.Test.YtgjeggcopempnaaTe
import Derived.Test.YtgjeggcopempnaaTd
set_option linter.unusedVariables false
set_option linter.unusedSimpArgs false
namespace Go.Proofs.Ytgjeggcopempnaa
open Go.RowKit

/-- A network with a state, as a stream without a crossfade. -/
def runD (n : NetD) (s : List Int) : StrD := ⟨n, NetD.zero, s, [], 0, 0, 0⟩
theorem runD_good {n : NetD} {s : List Int} (h : n.ok = true) (hs : n.state s = true) : (runD n s).Good :=
  ⟨h, hs, (show (0 : Int) ≤ 0 ∧ (0 : Int) ≤ 1099511627776 by decide), (show (0 : Int) ≤ 0 ∧ (0 : Int) ≤ 4096 by decide), (show (0 : Int) ≤ 0 ∧ (0 : Int) ≤ 0 by decide), .inl ⟨rfl, rfl, NetD.isZero_iff.2 rfl, rfl⟩⟩
theorem runD_out {n : NetD} {s x : List Int} {k : Nat} {y : Int} : (runD n s).outY x k y = n.outp ((runD n s).stS x k) y := outY_off (by show ¬ (k : Int) < 0; omega)
/-- A row of the call's own under a change of blocks from b on. -/
theorem own_under {w w' : World} {base n size b : Nat} {e : TypeId} {v : Value} {xs : List Value} (h : w.ownsRow base e size v n xs) (hb : Below b w w') (hv : ∀ q, v.ownBlock = some q → q < b) : w'.ownsRow base e size v n xs := by
  obtain ⟨h1, h2 | ⟨g, cap, cur, hv', hg, hh, r⟩⟩ := h
  · exact ⟨h1, .inl h2⟩
  · have hlt : g < b := hv g (by rw [hv']; rfl)
    exact ⟨h1, .inr ⟨g, cap, cur, hv', hg, (hb.block g hlt).trans hh, r⟩⟩
theorem Own.under {base b : Nat} {w w' : World} {v : Value} {l : List Int} (h : Own base w v l) (hb : Below b w w') (hv : ∀ q, v.ownBlock = some q → q < b) : Own base w' v l := ⟨own_under h.1 hb hv, h.2⟩
theorem Own.intsF {base n c : Nat} {w : World} {A : Option Addr} {l : List Int} (h : Own base w (.slice A n c) l) : IntsF base w A l ∧ l.length = n := by
  obtain ⟨A', c', e, -, hi⟩ := h.form
  injection e with e1 e2 e3
  subst e1 e2 e3
  exact ⟨IntsF.own h, rfl⟩
/-- Outputs and the last state. -/
def RetRun (w : World) (O S : List Int) (e : Ending) (w' : World) : Prop := ∃ (A B : Option Addr) (c b : Nat) (k : Int), e = .returned (.tuple #[.slice A O.length c, .slice B S.length b, .int .i64 k, .int .i64 0]) ∧ IntsF w.heap.size w' A O ∧ IntsF w.heap.size w' B S ∧ Below w.heap.size w w'
theorem entryN1 (w : World) (n : NetD) (NA : Option Addr) (nc : Nat) (XA : Option Addr) (xc : Nat) : ∀ W, W = (w.alloc (.cells (n.lst NA nc XA xc).toArray 31)) →
    Box W w.heap.size (n.lst NA nc XA xc) ∧ Below w.heap.size w W ∧ w.heap.size + 1 ≤ W.heap.size := fun W hW => by
  subst hW
  exact ⟨Box.new rfl, (Below.refl w.heap.size w).alloc (Nat.le_refl _) _, by simp⟩
theorem ld_netB1 {ops : Array Oper} {rest : List Oper} {o : Oper} {a : Act} {Q : Exit → Act → World → Prop} {w : World} {cs : List Value} {g : Nat} (hb : Box w g cs) (hl : cs.length = 12) (hgd : o.guard = none) (x : Operand) (ho : o.op = .load 31 x) (hx : a.eval x = .pointer (some ⟨g, 0, none⟩)) (h : wpList Try.prog ops Q rest (a.put o.dst (.agg cs.toArray)) w) : wpList Try.prog ops Q (o :: rest) a w := by
  obtain ⟨d, h1, h2⟩ := row_net
  exact wp_ld hgd _ x ho g 0 hx hb cs (fun j v hj => by rw [Nat.zero_add]; exact hj) d h1 h2 (by rw [hl]; exact size_net) h
set_option maxRecDepth 100000 in
set_option maxHeartbeats 8000000 in
theorem nw_Run (n : NetD) (NA XA : Option Addr) (nc xc : Nat) (s : List Int) (SA : Option Addr) (sn sc : Nat) (x : List Int) (IA : Option Addr) (xn ic : Nat) (w : World) (hn : NetAt w n NA XA) (hok : n.ok = true) (hst : n.state s = true) (hsn : s.length = sn) (hS : Ints w SA s) (hX : Ints w IA x) (hf : n.fit x = true) (hxn : x.length = xn) (hx4 : xn ≤ 4096) :
    Calls Try.prog 9 #[.agg (n.lst NA nc XA xc).toArray, .slice SA sn sc, .slice IA xn ic] w (RetRun w ((runD n s).outS x xn) ((runD n s).stS x xn)) := by
  obtain ⟨p1, -, ⟨p2, p3⟩, p4, p5, -, p7, p8, p9⟩ := netB_parts hok
  have hG := runD_good hok hst
  obtain ⟨s1, s2⟩ := state_iff.1 hst
  have hs64 : sn ≤ 64 := by omega
  obtain ⟨q, hq⟩ : ∃ q : Nat, n.out = (q : Int) := ⟨n.out.toNat, by omega⟩
  have CV : Hid (∀ w1, Below w.heap.size w w1 → Calls Try.prog 18 #[.agg (n.lst NA nc XA xc).toArray] w1 fun e w' => e = .returned (.bool true) ∧ Below w1.heap.size w1 w') := fun w1 hb => by
    have h := hn.grow hb
    have := nw_Valid n.d0 n.d1 n.d2 n.d3 n.c0 n.c1 n.c2 n.c3 n.st n.out NA XA nc xc n.ns n.nx w1 h.nodes h.next h.n1 h.n2 h.n3 h.st
    rw [show netB _ _ _ _ _ _ _ _ _ _ _ _ = true from hok] at this; exact this
  have CW : Hid (∀ w1, Below w.heap.size w w1 → Calls Try.prog 19 #[.agg (n.lst NA nc XA xc).toArray, .slice SA sn sc, .slice IA xn ic] w1 fun e w' => e = .returned (.int .i64 0) ∧ Below w1.heap.size w1 w') := fun w1 hb => by
    have h := hn.grow hb
    exact nw_wrong n.d0 n.d1 n.d2 n.d3 n.c0 n.c1 n.c2 n.c3 n.st n.out NA XA SA IA nc xc sn sc xn ic n.ns n.nx s x w1 h.nodes h.next (hS.grow hb) (hX.grow hb) hsn hxn (by omega) (by omega) (by omega) s2 (List.all_eq_true.1 hf)
  have CC : Hid (∀ w1 l A y, Below w.heap.size w w1 → Ints w1 A l → n.state l = true → fitsW n.d0 n.d1 n.d2 n.d3 y = true → Calls Try.prog 20 #[.agg (n.lst NA nc XA xc).toArray, .slice A sn sn, .int .i64 y] w1 fun e w' => ∃ B b o, e = .returned (.tuple #[.slice B (n.vals l y).length b, .bool o]) ∧ IntsF w1.heap.size w' B (n.vals l y) ∧ Below w1.heap.size w1 w') := fun w1 l A y hb hi hl hy => by
    have h := hn.grow hb
    obtain ⟨l1, l2⟩ := state_iff.1 hl
    refine (nw_compute n.d0 n.d1 n.d2 n.d3 n.c0 n.c1 n.c2 n.c3 n.st n.out y NA XA A nc xc sn sn n.ns n.nx l w1 hok h.nodes h.next hi (by omega) (by omega) l2 hy).mono ?_
    rintro e w' ⟨v, rfl, ho, hb⟩
    obtain ⟨B, b, rfl, -, -⟩ := ho.form
    exact ⟨B, b, _, rfl, IntsF.own ho, hb⟩
  have CF : Hid (∀ w1 l A b y, Below w.heap.size w w1 → Ints w1 A (n.vals l y) → n.state l = true → Calls Try.prog 21 #[.agg (n.lst NA nc XA xc).toArray, .slice A (n.vals l y).length b] w1 fun e w' => ∃ B b, e = .returned (.slice B sn b) ∧ IntsF w1.heap.size w' B (n.follow l y) ∧ Below w1.heap.size w1 w') := fun w1 l A b y hb hi hl => by
    have h := hn.grow hb
    obtain ⟨l1, l2⟩ := state_iff.1 hl
    have hvl : (n.vals l y).length = 1 + l.length + n.ns.length := vals_at hok l1
    refine (nw_follow n.d0 n.d1 n.d2 n.d3 n.c0 n.c1 n.c2 n.c3 n.st n.out NA XA A nc xc _ b n.ns n.nx (n.vals l y) w1 h.nodes h.next hi rfl (by omega) p5 (by omega) (fun v hv => by have := p7 v hv; omega)).mono ?_
    rintro e w' ⟨v, rfl, ho, hb⟩
    obtain ⟨B, b', rfl, -, -⟩ := ho.form
    have e : (followF n.nx (n.vals l y)).length = sn := by unfold followF; rw [List.length_map]; omega
    exact ⟨B, b', by rw [e], IntsF.own ho, hb⟩
  have HST : Hid (∀ k, k ≤ xn → n.state ((runD n s).stS x k) = true) := fun k hk => stS_state hG hf k (by omega)
  have HLN : Hid (∀ l, n.state l = true → l.length = sn) := fun l hl => by have := (state_iff.1 hl).1; omega
  have HVL : Hid (∀ l y, n.state l = true → q < (n.vals l y).length ∧ (n.vals l y).length ≤ 1000) := fun l y hl => by
    have l1 := (state_iff.1 hl).1
    have hvl : (n.vals l y).length = 1 + l.length + n.ns.length := vals_at hok l1
    omega
  have HFX := Lib.hid (List.all_eq_true.1 hf)
  have HQ := Lib.hid hq
  have HX := Lib.hid hX
  have HS := Lib.hid hS
  have HXN := Lib.hid hxn
  have HSN := Lib.hid hsn
  have HOK := Lib.hid hok
  have hxx : (xn : Int) ≤ 4096 := by omega
  clear hn hok hst hS hX hf hxn hsn p1 p2 p3 p4 p5 p7 p8 p9 hG s1 s2 hq
  go_enter Try.func9, Try.ntmps9
  go_upto_region 1 with fail
  obtain ⟨bx0, hb0, hs0⟩ := entryN1 w n NA nc XA xc _ rfl
  change Code.wp _ _ _ _ (w.alloc (.cells (n.lst NA nc XA xc).toArray 31))
  generalize (w.alloc (.cells (n.lst NA nc XA xc).toArray 31)) = W0 at bx0 hb0 hs0 ⊢
  go_upto_region 8 with (first
    | ((with_reducible show wpList _ _ _ (Oper.mk _ (.load _ _) _ _ _ _ :: _) _ _); first | (refine ld_netB1 bx0 rfl rfl _ rfl rfl ?_) | (refine ld_netB1 bx1 rfl rfl _ rfl rfl ?_))
    | (go_at_call 18; (with_reducible refine (CV.out _ hb0).mono ?_); rintro e1 w1 ⟨rfl, hb1⟩; have bx1 := Box.keep bx0 hb1; have hw1 := below_then hb0 hb1)
    | (go_at_call 19; (with_reducible refine (CW.out _ hw1).mono ?_); rintro e2 w2 ⟨rfl, hb2⟩; have bx2 := Box.keep bx1 hb2; have hw2 := below_then hw1 hb2))
  have hs2 : w.heap.size + 1 ≤ w2.heap.size := Nat.le_trans hs0 (Nat.le_trans hb1.size hb2.size)
  clear bx0 hb0 hs0 bx1 hw1 hb1 hb2
  go_upto_region 9 with (at_make; refine mk_int rfl _ _ rfl (w.heap.size + 1) sn rfl rfl rfl (by omega) hs2 ?_; intro w3 ho3 hb3)
  have hgl := ho3.block
  have hw3 := below_then hw2 hb3
  have bx3 := Box.keep bx2 hb3
  generalize w2.heap.size = g at ho3 hgl ⊢
  clear hw2 bx2 hb3
  go_upto_region 10 with ((with_reducible show wpList _ _ _ (Oper.mk _ (.call ⟨.builtin .copy, _, _⟩) _ _ _ _ :: _) _ _); refine copy_full rfl _ _ rfl rfl rfl ho3 List.length_replicate (HS.out.grow hw3) HSN.out ?_; intro w4 ho4 pg4)
  have hw4 := put_facts hw3 (by omega) pg4
  have bx4 := Box.grown bx3 pg4 (by intro e; injection e with e; omega)
  have hs4 : g + 1 ≤ w4.heap.size := Nat.le_trans hgl.2 pg4.size
  clear hw3 bx3 ho3 pg4
  go_upto_region 11 with (at_make; refine mk_int0 rfl _ _ rfl (g + 1) xn rfl rfl rfl (by omega) hs4 ?_; intro w5 ho5 hb5)
  have HW5 := Lib.hid (below_then hw4 hb5)
  have BX5 := Lib.hid (Box.keep bx4 hb5)
  have HN5 := Lib.hid (ho4.grow hb5)
  have HO5 := Lib.hid ho5
  clear hw4 bx4 ho4 hb5 ho5 hs4 hs2
  go_wp2_with fail
  go_loopw [12, 13, 42] (fun v c i wr => ∃ (k cnt : Nat), k ≤ xn ∧ cnt ≤ k ∧ i = .int .i64 k ∧ c = .int .i64 cnt ∧ Hid (Own (g + 1) wr v ((runD n s).outS x k)) ∧ Hid (Own (w.heap.size + 1) wr (.slice (some ⟨g, 0, none⟩) sn sn) ((runD n s).stS x k)) ∧ Hid (Below w.heap.size w wr) ∧ Hid (Box wr w.heap.size (n.lst NA nc XA xc))) (fun _ _ i _ => xn - (intOf i).toNat)
  case atStart => exact ⟨0, 0, Nat.zero_le _, Nat.le_refl _, rfl, rfl, HO5, HN5, HW5, BX5⟩
  case round =>
    obtain ⟨k, cnt, hk, hcnt, rfl, rfl, HO, HNW, HB, HBX⟩ := hrel
    by_cases hlt : ¬ k < xn
    · obtain rfl : k = xn := by omega
      have hlo3 : ¬ (k : Int) < (k : Int) := by omega
      obtain ⟨A, c, ev, -, -⟩ := HO.out.form
      have HOO := HO.out
      rw [ev] at HOO
      have HIF := Lib.hid ((IntsF.own HOO).base (b' := w.heap.size) (by omega))
      subst ev
      have HNF := Lib.hid ((HNW.out.intsF).1.base (b' := w.heap.size) (by omega))
      have hl := (HNW.out.intsF).2
      clear HOO
      go_wp2_with fail
      refine bodyPost_ret (results_tmp4 rfl _ _ _) rfl ?_
      exact ⟨A, some ⟨g, 0, none⟩, c, sn, (cnt : Int), by rw [hl]; rfl, HIF.out, HNF.out, HB.out⟩
    · have hlt := Classical.not_not.1 hlt
      obtain ⟨ad, y, rfl, hba, hy, hcy, y1, y2⟩ := (HX.out.grow HB.out).at_ (k := k) (by rw [HXN.out]; exact hlt)
      have HFY : Hid (fitsW n.d0 n.d1 n.d2 n.d3 y = true) := HFX.out _ (List.mem_of_getElem? hy)
      have hsl := HST.out k (by omega)
      obtain ⟨l, hl⟩ : ∃ l, (runD n s).stS x k = l := ⟨_, rfl⟩
      rw [hl] at hsl HNW
      have HYS := Lib.hid (outS_succ (d := runD n s) hy)
      have HYT : Hid ((runD n s).stS x (k + 1) = n.follow l y) := by show _ = _; rw [stS_succ hy, hl]; rfl
      have HYO : Hid ((runD n s).outY x k y = n.outp l y) := by show _ = _; rw [runD_out, hl]
      obtain ⟨vl1, vl2⟩ := HVL.out l y hsl
      obtain ⟨Y, hY⟩ : ∃ Y, (n.vals l y)[q]? = some Y := ⟨_, List.getElem?_eq_getElem vl1⟩
      have HYY : Hid (n.outp l y = Y) := by
        show atF (n.vals l y) n.out = Y
        rw [HQ.out]; exact atF_nat hY
      have HY := Lib.hid hY
      have HSL := Lib.hid hsl
      have hoy : (((runD n s).outS x k).length : Nat) = k := outS_length k (by rw [HXN.out]; omega)
      have HOY : Hid (((runD n s).outS x k).length < 100000000) := by show _ < _; omega
      have q1 : (0 : Int) ≤ (k : Int) := by omega
      have q2 : (k : Int) < (xn : Int) := by omega
      obtain ⟨vn, hvn⟩ : ∃ m, (n.vals l y).length = m := ⟨_, rfl⟩
      rw [hvn] at vl1 vl2
      have HVN := Lib.hid hvn
      have CC1 : Hid (∀ w1, Below wr.heap.size wr w1 → Calls Try.prog 20 #[.agg (n.lst NA nc XA xc).toArray, .slice (some ⟨g, 0, none⟩) sn sn, .int .i64 y] w1 fun e w' => ∃ B b o, e = .returned (.tuple #[.slice B vn b, .bool o]) ∧ IntsF w1.heap.size w' B (n.vals l y) ∧ Below w1.heap.size w1 w') := fun w1 hb => by
        have := CC.out w1 l (some ⟨g, 0, none⟩) y (below_then HB.out hb) ((HNW.out.grow hb).intsF).1.1 HSL.out HFY.out
        rw [HVN.out] at this; exact this
      have CF1 : Hid (∀ w1 A b, Below wr.heap.size wr w1 → Ints w1 A (n.vals l y) → Calls Try.prog 21 #[.agg (n.lst NA nc XA xc).toArray, .slice A vn b] w1 fun e w' => ∃ B b, e = .returned (.slice B sn b) ∧ IntsF w1.heap.size w' B (n.follow l y) ∧ Below w1.heap.size w1 w') := fun w1 A b hb hi => by
        have := CF.out w1 l A b y (below_then HB.out hb) hi HSL.out
        rw [HVN.out] at this; exact this
      have hfl : (n.follow l y).length = sn := by
        have h1 := HST.out (k + 1) (by omega)
        rw [HYT.out] at h1
        exact HLN.out _ h1
      have HFL := Lib.hid hfl
      have HLL := Lib.hid (HLN.out l hsl)
      clear hy hl hsl hY hoy hvn hfl hba
      go_upto_region 16 with (first
        | ((with_reducible show wpList _ _ _ (Oper.mk _ (.load 31 _) _ _ _ _ :: _) _ _); refine ld_netB1 HBX.out rfl rfl _ rfl rfl ?_)
        | (go_at_call 20; (with_reducible refine (CC1.out _ (Below.refl _ _)).mono ?_); rintro e6 w6 ⟨VB, vb, ov, rfl, hv6, hb6⟩))
      have bx6 := Box.keep HBX.out hb6
      have hi6 := hv6.1
      go_upto_region 17 with (first
        | ((with_reducible show wpList _ _ _ (Oper.mk _ (.load 31 _) _ _ _ _ :: _) _ _); refine ld_netB1 bx6 rfl rfl _ rfl rfl ?_)
        | (go_at_call 21; (with_reducible refine (CF1.out _ VB vb hb6 hi6).mono ?_); rintro e7 w7 ⟨FB, fb, rfl, hf7, hb7⟩; have ho7 := (HNW.out.grow hb6).grow hb7)
        | ((with_reducible show wpList _ _ _ (Oper.mk _ (.call ⟨.builtin .copy, _, _⟩) _ _ _ _ :: _) _ _); refine copy_full rfl _ _ rfl rfl rfl ho7 HLL.out hf7.1 HFL.out ?_; intro w8 ho8 pg8))
      have hv8 := ((hv6.grow hb7).away pg8 (HNW.out.block).2)
      have bx8 := Box.grown (Box.keep bx6 hb7) pg8 (by intro e; injection e with e; omega)
      have hw8 := put_facts (below_then (below_then HB.out hb6) hb7) (by omega) pg8
      have hq8 := own_away ((HO.out.grow hb6).grow hb7) pg8 (Nat.lt_succ_self _)
      obtain ⟨vd, Y', rfl, -, hY', hcv, i1, i2⟩ := hv8.1.at_ (k := q) (by rw [HVN.out]; exact vl1)
      obtain rfl : Y' = Y := by rw [HY.out] at hY'; injection hY' with h; exact h.symm
      have hs8 : g + 1 ≤ w8.heap.size := by have := HNW.out.block; have := hb6.size; have := hb7.size; have := pg8.size; omega
      have c11 : w8.cell? ⟨w.heap.size, 11, none⟩ = some (.int .i64 n.out) := bx8.2.1 11
      rw [HQ.out] at c11
      have HV8 := Lib.hid hv8
      clear hv8 hY'
      go_upto_region 18 with (at_builtin; refine app_int w8 rfl _ _ rfl (g + 1) hq8 rfl rfl HOY.out hs8 (y := Y') ⟨i1, i2⟩ ?_; intro v9 w9 ho9 hb9)
      have hn9 := ho8.under hb9 (fun r hr => by have hr : some g = some r := hr; injection hr with hr; omega)
      have bx9 := Box.block bx8 (hb9.block _ (by omega)) hb9.size
      have hw9 := hw8.trans (hb9.mono (by omega))
      rcases ov with _ | _
      all_goals
        go_wp2_with fail
        go_roundw
      case rel => exact ⟨k + 1, cnt, by omega, by omega, by go_num, rfl, by rw [HYS.out, HYO.out, HYY.out]; exact ho9, by rw [HYT.out]; exact hn9, hw9, bx9⟩
      case measure => simp [intOf]; omega
      case rel => exact ⟨k + 1, cnt + 1, by omega, by omega, by go_num, by go_num, by rw [HYS.out, HYO.out, HYY.out]; exact ho9, by rw [HYT.out]; exact hn9, hw9, bx9⟩
      case measure => simp [intOf]; omega
end Go.Proofs.Ytgjeggcopempnaa
