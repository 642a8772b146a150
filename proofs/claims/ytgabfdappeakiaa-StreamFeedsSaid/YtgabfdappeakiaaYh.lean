/- The walk of the law StreamFeeds. -/
import Derived.Test.YtgabfdappeakiaaYd
import Derived.Test.YtgabfdappeakiaaYe
import Derived.Test.YtgabfdappeakiaaYg
import Derived.Test.YtgabfdappeakiaaTr
set_option linter.unusedVariables false
set_option linter.unusedSimpArgs false
namespace Go.Proofs.Ytgabfdappeakiaa
open Go.RowKit

theorem plO_len (d : StrD) (es : List EvA) : (plO d es).length ≤ es.length * 4096 := by
  unfold plO
  by_cases h : playE d es = 0
  · rw [if_pos h]
    exact go es d h
  · rw [if_neg h]; exact Nat.zero_le _
where go : ∀ (es : List EvA) (d : StrD), playE d es = 0 → (playO d es).length ≤ es.length * 4096
  | [], d, _ => Nat.zero_le _
  | e :: es, d, h => by
    have h : (if d.feedE e = 0 then playE (d.feedD e) es else d.feedE e) = 0 := h
    by_cases h0 : d.feedE e = 0
    · rw [if_pos h0] at h
      have h1 := feedO_4096 h0
      have h2 := go es _ h
      show (d.feedO e ++ playO (d.feedD e) es).length ≤ _
      rw [List.length_append, List.length_cons, Nat.add_mul]
      omega
    · rw [if_neg h0] at h; exact absurd h h0
theorem EvsAt.grow' {w w' : World} {A : Option Addr} {es : List EvA} (h : EvsAt w A es) (hb : Below w.heap.size w w') : EvsAt w' A es := h.grow hb
theorem two_post {P : Program} {c : Code} {Q : Exit → Act → World → Prop} {a : Act} {w : World} (R : Nat → Nat → World → Prop) (x1 x2 y1 y2 : Tmp) (v1 v2 : Value)
    (h1 : c.wp P (fun e b w' => e = .normal ∧ ∃ g h, R g h w' ∧ b = (((a.put (some x1) v1).put (some x2) v2).put (some y1) (.pointer (some ⟨g, 0, none⟩))).put (some y2) (.pointer (some ⟨h, 0, none⟩))) a w)
    (h2 : ∀ g h w', R g h w' → Q .normal ((((a.put (some x1) v1).put (some x2) v2).put (some y1) (.pointer (some ⟨g, 0, none⟩))).put (some y2) (.pointer (some ⟨h, 0, none⟩))) w') : c.wp P Q a w :=
  Code.wp_mono (fun e b w' h => by obtain ⟨rfl, g, k, hr, rfl⟩ := h; exact h2 g k w' hr) h1
theorem anyH_two {P : Program} {md : Region.Mode} {ops : Array Oper} {Q : Exit → Act → World → Prop} {S : World → Prop} {fuel : Nat} {listed : Array Bool} {a : Act} {w : World} {i j : Nat} {o p : Oper} (hi : ops[i]? = some o) (hj : ops[j]? = some p) (hr : Region.ready md ops listed = [i, j]) (hg : o.guard = none) (hg' : p.guard = none) (hs : ∀ cs b, o.op ≠ .select cs b) (hs' : ∀ cs b, p.op ≠ .select cs b) (hd : ∀ d, o.dst = some d → d < a.tmps.size) (hd' : ∀ d, p.dst = some d → d < a.tmps.size)
    (h : wpList P #[o] (fun e c w' => e = .normal ∧ ∃ v, c = a.put o.dst v ∧ (S w' ∧ wpAnyH P md ops Q S fuel (listed.setIfInBounds i true) (a.put o.dst v) w')) [o] a w)
    (h' : wpList P #[p] (fun e c w' => e = .normal ∧ ∃ v, c = a.put p.dst v ∧ (S w' ∧ wpAnyH P md ops Q S fuel (listed.setIfInBounds j true) (a.put p.dst v) w')) [p] a w) : wpAnyH P md ops Q S (fuel + 1) listed a w := by
  refine wpAnyH_all hr (by simp) fun k hk => ?_
  rcases List.mem_cons.1 hk with rfl | hk
  · unfold wpOp
    have hw : Region.wanted o (yielded ops a.tmps) = true := by simp [Region.wanted, hg]
    simp only [hi, hw, if_true]
    exact .inl (wp_move_frame hg hs ⟨rfl, fun _ _ => rfl⟩ hd h (fun v w' h => h))
  · obtain rfl := List.mem_singleton.1 hk
    unfold wpOp
    have hw : Region.wanted p (yielded ops a.tmps) = true := by simp [Region.wanted, hg']
    simp only [hj, hw, if_true]
    exact .inl (wp_move_frame hg' hs' ⟨rfl, fun _ _ => rfl⟩ hd' h' (fun v w' h => h))
theorem entryRE (w : World) (u : RawA) (e : EvA) : ∀ W, W = ((w.alloc (.cells u.lst.toArray 25)).alloc (.cells e.cells.toArray 33)) →
    Box W w.heap.size u.lst ∧ EvBox W (w.heap.size + 1) e ∧ Below w.heap.size w W ∧ w.heap.size + 2 ≤ W.heap.size := fun W hW => by
  subst hW
  exact ⟨Box.alloc (Box.new rfl) _, Box.new (by simp), ((Below.refl w.heap.size w).alloc (Nat.le_refl _) _).alloc (by simp) _, by simp⟩
theorem newSS (w : World) : ∀ W, W = ((w.alloc (.cells StrA.zero.cells.toArray 39)).alloc (.cells StrA.zero.cells.toArray 39)) →
    StrBox W.drew w.heap.size StrA.zero ∧ StrBox W.drew (w.heap.size + 1) StrA.zero ∧ Below w.heap.size w W.drew ∧ Below w.heap.size w W := fun W hW => by
  subst hW
  have hb := ((Below.refl w.heap.size w).alloc (Nat.le_refl _) (.cells StrA.zero.cells.toArray 39)).alloc (o := .cells StrA.zero.cells.toArray 39) (by simp)
  exact ⟨Box.drew (Box.alloc (Box.new rfl) _), Box.drew (Box.new (by simp)), hb.drew, hb⟩
set_option maxRecDepth 100000 in
set_option maxHeartbeats 16000000 in
theorem law_StreamFeeds (u : RawA) (l : Option Addr × Nat × List ChgA) (o : EvA) (w : World) (hu : RawOk w u) (hl : ChgsAt w l.1 l.2.2 ∧ l.2.2.length ≤ 9223372036854775807) (ho : EvAt w o) :
    Calls Try.prog 3 #[u.val, .slice l.1 l.2.2.length l.2.1, o.v] w (BoolBw w true) := by
  obtain ⟨CA, cc, cs⟩ := l
  obtain ⟨hC, hcl⟩ := hl
  simp only at hC hcl ⊢
  obtain ⟨cn, hcn⟩ : ∃ k, cs.length = k := ⟨_, rfl⟩
  rw [hcn] at hcl ⊢
  have HCN := Lib.hid hcn
  clear hcn
  obtain ⟨n0, hn0⟩ : ∃ n, o.x.length = n := ⟨_, rfl⟩
  have HN0 := Lib.hid hn0
  clear hn0
  obtain ⟨n1, hn1⟩ : ∃ n, o.net.ns.length = n := ⟨_, rfl⟩
  have HN1 := Lib.hid hn1
  clear hn1
  obtain ⟨n2, hn2⟩ : ∃ n, o.net.nx.length = n := ⟨_, rfl⟩
  have HN2 := Lib.hid hn2
  clear hn2
  by_cases h0 : (n0 : Int) ≤ 50
  rotate_left
  · have h0 : (50 : Int) < (n0 : Int) := Int.not_le.1 h0
    have d0 : decide ((50 : Int) < (n0 : Int)) = true := decide_eq_true h0
    clear hu hC ho
    show Calls Try.prog 3 #[.agg u.lst.toArray, .slice CA cn cc, o.v] w _
    go_enter Try.func3, Try.ntmps3
    go_upto_region 1 with fail
    obtain ⟨bx0, be0, hb0, hs0⟩ := entryRE w u o _ rfl
    change Code.wp _ _ _ _ ((w.alloc (.cells u.lst.toArray 25)).alloc (.cells o.cells.toArray 33))
    generalize ((w.alloc (.cells u.lst.toArray 25)).alloc (.cells o.cells.toArray 33)) = W0 at bx0 be0 hb0 hs0 ⊢
    obtain ⟨v2, v11, v12⟩ := be0.lens
    rw [HN0.out] at v2
    rw [HN1.out] at v11
    rw [HN2.out] at v12
    go_wp2_with (go_at_call 4; refine (known42 _).mono ?_; rintro e1 w1 ⟨rfl, hb1⟩; have hw1 := below_then hb0 hb1)
    go_ret
    exact ⟨rfl, hw1⟩
  have d0 : decide ((50 : Int) < (n0 : Int)) = false := decide_eq_false (Int.not_lt.2 h0)
  by_cases h1 : (n1 : Int) ≤ 10
  rotate_left
  · have h1 : (10 : Int) < (n1 : Int) := Int.not_le.1 h1
    have d1 : decide ((10 : Int) < (n1 : Int)) = true := decide_eq_true h1
    clear hu hC ho
    show Calls Try.prog 3 #[.agg u.lst.toArray, .slice CA cn cc, o.v] w _
    go_enter Try.func3, Try.ntmps3
    go_upto_region 1 with fail
    obtain ⟨bx0, be0, hb0, hs0⟩ := entryRE w u o _ rfl
    change Code.wp _ _ _ _ ((w.alloc (.cells u.lst.toArray 25)).alloc (.cells o.cells.toArray 33))
    generalize ((w.alloc (.cells u.lst.toArray 25)).alloc (.cells o.cells.toArray 33)) = W0 at bx0 be0 hb0 hs0 ⊢
    obtain ⟨v2, v11, v12⟩ := be0.lens
    rw [HN0.out] at v2
    rw [HN1.out] at v11
    rw [HN2.out] at v12
    go_wp2_with (go_at_call 4; refine (known42 _).mono ?_; rintro e1 w1 ⟨rfl, hb1⟩; have hw1 := below_then hb0 hb1)
    go_ret
    exact ⟨rfl, hw1⟩
  have d1 : decide ((10 : Int) < (n1 : Int)) = false := decide_eq_false (Int.not_lt.2 h1)
  by_cases h2 : (n2 : Int) ≤ 10
  rotate_left
  · have h2 : (10 : Int) < (n2 : Int) := Int.not_le.1 h2
    have d2 : decide ((10 : Int) < (n2 : Int)) = true := decide_eq_true h2
    clear hu hC ho
    show Calls Try.prog 3 #[.agg u.lst.toArray, .slice CA cn cc, o.v] w _
    go_enter Try.func3, Try.ntmps3
    go_upto_region 1 with fail
    obtain ⟨bx0, be0, hb0, hs0⟩ := entryRE w u o _ rfl
    change Code.wp _ _ _ _ ((w.alloc (.cells u.lst.toArray 25)).alloc (.cells o.cells.toArray 33))
    generalize ((w.alloc (.cells u.lst.toArray 25)).alloc (.cells o.cells.toArray 33)) = W0 at bx0 be0 hb0 hs0 ⊢
    obtain ⟨v2, v11, v12⟩ := be0.lens
    rw [HN0.out] at v2
    rw [HN1.out] at v11
    rw [HN2.out] at v12
    go_wp2_with (go_at_call 4; refine (known42 _).mono ?_; rintro e1 w1 ⟨rfl, hb1⟩; have hw1 := below_then hb0 hb1)
    go_ret
    exact ⟨rfl, hw1⟩
  have d2 : decide ((10 : Int) < (n2 : Int)) = false := decide_eq_false (Int.not_lt.2 h2)
  have CN : Hid (∀ w1, Below w.heap.size w w1 → Calls Try.prog 5 #[.agg u.lst.toArray] w1 (RetRN w1)) := fun w1 hb => raw_RN u w1 (hu.grow hb)
  have CE : Hid (∀ w1 (n : NetD) (NA XA : Option Addr) (nc xc : Nat), Below w.heap.size w w1 → Calls Try.prog 6 #[.agg (n.lst NA nc XA xc).toArray, .slice CA cn cc] w1 (RetEvs w1)) := fun w1 n NA XA nc xc hb => l42_events n NA nc XA xc cs CA cn cc w1 (fun k c hk => by
    obtain ⟨ad, e, h1, h2, h3, h4⟩ := hC k c hk
    exact ⟨ad, e, h1, Nat.lt_of_lt_of_le h2 hb.size, range_keep h3 h2 hb, h4.grow hb⟩) HCN.out hcl
  have HO := Lib.hid ho
  clear hu hC ho
  show Calls Try.prog 3 #[.agg u.lst.toArray, .slice CA cn cc, o.v] w _
  go_enter Try.func3, Try.ntmps3
  go_upto_region 1 with fail
  obtain ⟨bx0, be0, hb0, hs0⟩ := entryRE w u o _ rfl
  change Code.wp _ _ _ _ ((w.alloc (.cells u.lst.toArray 25)).alloc (.cells o.cells.toArray 33))
  generalize ((w.alloc (.cells u.lst.toArray 25)).alloc (.cells o.cells.toArray 33)) = W0 at bx0 be0 hb0 hs0 ⊢
  obtain ⟨v2, v11, v12⟩ := be0.lens
  rw [HN0.out] at v2
  rw [HN1.out] at v11
  rw [HN2.out] at v12
  have BX0 := Lib.hid bx0
  have BE0 := Lib.hid be0
  have HW0 := Lib.hid hb0
  go_upto_region 3 with fail
  clear bx0 be0 hb0 v2 v11 v12 d0 d1 d2
  go_upto_region 4 with (first
    | ((with_reducible show wpList _ _ _ (Oper.mk (some 42) (.load _ _) _ _ _ _ :: _) _ _); refine ld_raw BX0.out rfl _ rfl rfl ?_)
    | (go_at_call 5; (with_reducible refine (CN.out _ HW0.out).mono ?_); rintro e1 w1 ⟨n, NA, nc, XA, xc, rfl, hok, hst3, hns4, hnf, hb1⟩)
    | ((with_reducible show wpList _ _ _ (Oper.mk _ (.store _ _ _) _ _ _ _ :: _) _ _); refine st_netBx (w := w1.alloc (.cells zNet.toArray 31)) (g := w1.heap.size) (vs := zNet) (n := n) (NB := NA) (nb := nc) (XB := XA) (xb := xc) (Box.new rfl) rfl rfl _ _ rfl rfl rfl ?_; intro W1 bn1 pg1))
  have hal1 := put_facts ((Below.refl w1.heap.size w1).alloc (Nat.le_refl _) (.cells zNet.toArray 31)) (Nat.le_refl _) pg1
  have HW1 := Lib.hid (below_then HW0.out (below_then hb1 hal1))
  have HN1' := Lib.hid (hnf.at.grow hal1)
  have HOK := Lib.hid hok
  have BN1 := Lib.hid bn1
  have BE1 := Lib.hid (EvBox.keep BE0.out (below_then hb1 hal1))
  generalize w1.heap.size = g7 at BN1 ⊢
  clear hnf hok hst3 hns4 hb1 bn1 pg1 hal1 CN BX0 BE0
  go_upto_region 5 with (first
    | ((with_reducible show wpList _ _ _ (Oper.mk (some 44) (.load _ _) _ _ _ _ :: _) _ _); refine ld_netB1 BN1.out rfl rfl _ rfl rfl ?_)
    | (go_at_call 6; (with_reducible refine (CE.out _ n NA XA nc xc HW1.out).mono ?_); rintro e1 W2 ⟨es, EA, en, ec, rfl, hes, h8, hev, hb2⟩))
  have HW2 := Lib.hid (below_then HW1.out hb2)
  have HN2' := Lib.hid (HN1'.out.grow hb2)
  have BN2 := Lib.hid (Box.keep BN1.out hb2)
  have BE2 := Lib.hid (EvBox.keep BE1.out hb2)
  have HEV := Lib.hid hev
  have HES := Lib.hid hes
  have HL2 : Hid (en ≤ 200) := by show _ ≤ _; omega
  clear hev hes hb2 HN1' BN1 BE1 CE
  obtain ⟨E, hE⟩ : ∃ E, playE (openD n) es = E := ⟨_, rfl⟩
  obtain ⟨D, hD⟩ : ∃ D, plD (openD n) es = D := ⟨_, rfl⟩
  obtain ⟨O, hO⟩ : ∃ O, plO (openD n) es = O := ⟨_, rfl⟩
  have HOL : Hid (O.length ≤ 1000000) := by
    show _ ≤ _
    rw [← hO]
    have h1 := plO_len (openD n) es
    have h2 := HES.out
    have : es.length * 4096 ≤ 8 * 4096 := Nat.mul_le_mul_right _ (by omega)
    omega
  have HGD : Hid (E = 0 → D.Good) := by
    show _ → _
    intro h0
    rw [← hD]
    unfold plD
    rw [hE, if_pos h0]
    exact play_good es _ (openD_good HOK.out) (hE.trans h0) (by show (0 : Int) + _ ≤ _; have := HES.out; omega)
  have HSM : Hid ((D.net.nx.length ≤ 64 ∧ D.net.ns.length ≤ 64) ∧ (D.old.nx.length ≤ 64 ∧ D.old.ns.length ≤ 64) ∧ D.s.length ≤ 64 ∧ D.f.length ≤ 64) := by
    by_cases h0 : E = 0
    · exact good_small (HGD.out h0)
    · show _ ∧ _
      rw [← hD]
      unfold plD
      rw [hE, if_neg h0]
      exact ⟨⟨Nat.zero_le _, Nat.zero_le _⟩, ⟨Nat.zero_le _, Nat.zero_le _⟩, Nat.zero_le _, Nat.zero_le _⟩
  have CP : Hid (∀ w1, Below W2.heap.size W2 w1 → Calls Try.prog 7 #[.agg (n.lst NA nc XA xc).toArray, .slice EA en ec] w1 (RetPlay w1 D O E)) := fun w1 hb => by
    have := st_Play n NA XA nc xc es EA en ec w1 (HN2'.out.grow hb) HOK.out (HEV.out.grow hb) HES.out HL2.out
    rw [hD, hO, hE] at this; exact this
  have CQ : Hid (∀ w1, Below W2.heap.size W2 w1 → Calls Try.prog 8 #[.agg (n.lst NA nc XA xc).toArray, .slice EA en ec] w1 (RetPlayR w1 D O E)) := fun w1 hb => by
    have := r42_Play n NA XA nc xc es EA en ec w1 (HN2'.out.grow hb) HOK.out (HEV.out.grow hb) HES.out HL2.out
    rw [hD, hO, hE] at this; exact this
  clear hE hD hO
  go_upto_region 6 with (first
    | ((with_reducible show wpList _ _ _ (Oper.mk (some 48) (.load _ _) _ _ _ _ :: _) _ _); refine ld_netB1 BN2.out rfl rfl _ rfl rfl ?_)
    | (go_at_call 7; (with_reducible refine (CP.out _ (Below.refl _ _)).mono ?_); rintro e1 w3 ⟨us, YA, yc, rfl, hud, huf, hyi, hb3⟩)
    | ((with_reducible show wpList _ _ _ (Oper.mk _ (.store _ _ _) _ _ _ _ :: _) _ _); refine st_str (u := StrA.zero) (w := w3.alloc (.cells StrA.zero.cells.toArray 39)) (g := w3.heap.size) (Box.new rfl) rfl _ _ rfl rfl rfl ?_; intro W3 bs3 p3))
  have hp3 := put_facts ((Below.refl w3.heap.size w3).alloc (Nat.le_refl _) (.cells StrA.zero.cells.toArray 39)) (Nat.le_refl _) p3
  have HB23 := Lib.hid (below_then hb3 hp3)
  have BS3 := Lib.hid bs3
  have HUA3 := Lib.hid (huf.at.grow hp3)
  have HYI3 := Lib.hid (hyi.1.grow hp3)
  have HUD := Lib.hid hud
  have BN3 := Lib.hid (Box.keep BN2.out HB23.out)
  generalize w3.heap.size = g10 at BS3 ⊢
  clear hud huf hyi hb3 bs3 p3 hp3 CP
  go_upto_region 7 with (first
    | ((with_reducible show wpList _ _ _ (Oper.mk (some 55) (.load _ _) _ _ _ _ :: _) _ _); refine ld_netB1 BN3.out rfl rfl _ rfl rfl ?_)
    | (go_at_call 8; (with_reducible refine (CQ.out _ HB23.out).mono ?_); rintro e1 w4 ⟨ut, ZA, zc, rfl, htd, hta, hzi, hb4⟩)
    | ((with_reducible show wpList _ _ _ (Oper.mk _ (.store _ _ _) _ _ _ _ :: _) _ _); refine st_str (u := StrA.zero) (w := w4.alloc (.cells StrA.zero.cells.toArray 39)) (g := w4.heap.size) (Box.new rfl) rfl _ _ rfl rfl rfl ?_; intro W4 bt4 p4))
  have hp4 := put_facts ((Below.refl w4.heap.size w4).alloc (Nat.le_refl _) (.cells StrA.zero.cells.toArray 39)) (Nat.le_refl _) p4
  have hb34 := below_then hb4 hp4
  have HB24 := Lib.hid (below_then HB23.out hb34)
  have BS4 := Lib.hid (StrBox.keep BS3.out hb34)
  have BT4 := Lib.hid bt4
  have HUA := Lib.hid (HUA3.out.grow hb34)
  have HYI := Lib.hid (HYI3.out.grow hb34)
  have HTA := Lib.hid (hta.grow hp4)
  have HZI := Lib.hid (hzi.grow hp4)
  have HTD := Lib.hid htd
  have BN4 := Lib.hid (Box.keep BN3.out hb34)
  have BE4 := Lib.hid (EvBox.keep BE2.out HB24.out)
  have HN4 := Lib.hid (HN2'.out.grow HB24.out)
  have HW4 := Lib.hid (below_then HW2.out HB24.out)
  generalize w4.heap.size = g13 at BT4 ⊢
  clear htd hta hzi hb4 bt4 p4 hp4 hb34 CQ BS3 HUA3 HYI3 BN3 BN2 BE2 HN2' HB23 HB24 HEV HES
  have HDD : Hid (ut.d = us.d) := HTD.out.trans HUD.out.symm
  have CI : Hid (∀ w1, Below W4.heap.size W4 w1 → Calls Try.prog 9 #[.slice YA O.length yc, .slice ZA O.length zc] w1 fun e1 w' => e1 = .returned (.bool true) ∧ Below w1.heap.size w1 w') := fun w1 hb => rf_SameN YA ZA O O yc zc _ _ w1 rfl rfl HOL.out rfl (HYI.out.grow hb) (HZI.out.grow hb)
  have CS : Hid (∀ w1, Below W4.heap.size W4 w1 → Calls Try.prog 10 #[us.v, ut.v] w1 fun e1 w' => e1 = .returned (.bool true) ∧ Below w1.heap.size w1 w') := fun w1 hb => by
    have hs := HSM.out
    rw [← HUD.out] at hs
    exact r42_Same us ut w1 HDD.out (HUA.out.grow hb) (HTA.out.grow hb) (Nat.le_trans hs.1.1 (by decide)) (Nat.le_trans hs.2.1.1 (by decide)) (Nat.le_trans hs.2.2.1 (by decide)) (Nat.le_trans hs.2.2.2 (by decide))
  have CV : Hid (E = 0 → ∀ w1, Below W4.heap.size W4 w1 → Calls Try.prog 11 #[us.v] w1 fun e1 w' => e1 = .returned (.bool true) ∧ Below w1.heap.size w1 w') := fun h0 w1 hb => by
    have := st_Valid us w1 (HUA.out.grow hb)
    rw [decide_eq_true (by rw [HUD.out]; exact HGD.out h0 : us.d.Good)] at this
    exact this
  clear HYI HZI HOL HSM HGD
  by_cases hE0 : E = 0
  · subst hE0
    have CV0 : Hid (∀ w1, Below W4.heap.size W4 w1 → Calls Try.prog 11 #[us.v] w1 fun e1 w' => e1 = .returned (.bool true) ∧ Below w1.heap.size w1 w') := CV.out rfl
    clear CV
    go_upto_region 9 with (first
      | (go_at_call 9; (with_reducible refine (CI.out _ (Below.refl _ _)).mono ?_); rintro e1 w5 ⟨rfl, hb5⟩; have bs5 := StrBox.keep BS4.out hb5; have bt5 := StrBox.keep BT4.out hb5)
      | ((with_reducible show wpList _ _ _ (Oper.mk (some 71) (.load _ _) _ _ _ _ :: _) _ _); refine ld_strW bs5 rfl _ rfl rfl ?_)
      | ((with_reducible show wpList _ _ _ (Oper.mk (some 72) (.load _ _) _ _ _ _ :: _) _ _); refine ld_strW bt5 rfl _ rfl rfl ?_)
      | (go_at_call 10; (with_reducible refine (CS.out _ hb5).mono ?_); rintro e1 w6 ⟨rfl, hb6⟩; have hb46 := below_then hb5 hb6; have bs6 := StrBox.keep bs5 hb6)
      | ((with_reducible show wpList _ _ _ (Oper.mk (some 80) (.load _ _) _ _ _ _ :: _) _ _); refine ld_strW bs6 rfl _ rfl rfl ?_)
      | (go_at_call 11; (with_reducible refine (CV0.out _ hb46).mono ?_); rintro e1 w7 ⟨rfl, hb7⟩; have hb47 := below_then hb46 hb7))
    have HWw := Lib.hid (below_then HW4.out hb47)
    have BSw := Lib.hid (StrBox.keep BS4.out hb47)
    have BTw := Lib.hid (StrBox.keep BT4.out hb47)
    have HUAw := Lib.hid (HUA.out.grow hb47)
    have HTAw := Lib.hid (HTA.out.grow hb47)
    have BNw := Lib.hid (Box.keep BN4.out hb47)
    have BEw := Lib.hid (EvBox.keep BE4.out hb47)
    have HNw := Lib.hid (HN4.out.grow hb47)
    clear bs5 bt5 bs6 hb5 hb6 hb46 CI CS BS4 BT4 HUA HTA BN4 BE4 HN4 HW4 hb47
    obtain ⟨td, hu, hd⟩ := row_str
    refine two_post (fun g h w' => g ≠ h ∧ w7.heap.size ≤ g ∧ w7.heap.size ≤ h ∧ StrBox w' g us ∧ StrBox w' h ut ∧ Below w7.heap.size w7 w') 85 86 15 16 us.v ut.v ?_ ?_
    · refine wp_region_held (S := fun w' => w'.rangeAt g10 0 us.cells ∧ w'.rangeAt g13 0 ut.cells) (by kernel_rfl) ?_
      have hdr : Below w7.heap.size w7 w7.drew := (Below.refl _ _).drew
      have hS : ∀ w', Below w7.heap.size w7 w' → w'.rangeAt g10 0 us.cells ∧ w'.rangeAt g13 0 ut.cells := fun w' hb => ⟨Box.range (StrBox.keep BSw.out hb).box (str_in us), Box.range (StrBox.keep BTw.out hb).box (str_in ut)⟩
      refine wpAnyH_take (i := 0) (oi := _) (v := us.v) rfl (by kernel_rfl) (by kernel_rfl) (by kernel_rfl) (fun _ _ _ h => by cases h.1) (yieldsIf_load_mid (by kernel_rfl) _ _ rfl g10 0 rfl us.cells td (fun w h => h.1) hu hd size_str) (hS _ hdr) ?_
      refine wpAnyH_take (i := 1) (oi := _) (v := ut.v) rfl (by kernel_rfl) (by kernel_rfl) (by kernel_rfl) (fun _ _ _ h => by cases h.1) (yieldsIf_load_mid (by kernel_rfl) _ _ rfl g13 0 rfl ut.cells td (fun w h => h.2) hu hd size_str) (hS _ hdr) ?_
      obtain ⟨hn1, hn2, hb9, hb9'⟩ := newSS w7 _ rfl
      refine anyH_two (i := 2) (j := 3) rfl rfl (by kernel_rfl) rfl rfl (fun cs b h => by cases h) (fun cs b h => by cases h) (fun d h => by cases h; exact of_decide_eq_true rfl) (fun d h => by cases h; exact of_decide_eq_true rfl) ?_ ?_
      · go_wp2_with fail
        refine ⟨hS _ ((Below.refl _ _).alloc (Nat.le_refl _) _), ?_⟩
        refine anyH_one (i := 3) rfl (by kernel_rfl) rfl (fun cs b h => by cases h) (fun d h => by cases h; exact of_decide_eq_true rfl) ?_
        go_wp2_with fail
        refine ⟨hS _ hb9', ?_⟩
        refine anyH_one (i := 4) rfl (by kernel_rfl) rfl (fun cs b h => by cases h) (fun d h => by cases h) ?_
        refine st_str (g := w7.heap.size) (u := StrA.zero) (u' := us) hn1 rfl _ _ rfl rfl rfl ?_
        intro W10 b10 p10
        have hb10 := put_facts hb9 (by omega) p10
        refine ⟨rfl, undef, rfl, hS _ hb10, ?_⟩
        refine anyH_one (i := 5) rfl (by kernel_rfl) rfl (fun cs b h => by cases h) (fun d h => by cases h) ?_
        refine st_str (g := (w7.heap.size + 1)) (u := StrA.zero) (u' := ut) (StrBox.away hn2 p10 (by omega)) rfl _ _ rfl rfl rfl ?_
        intro W11 b11 p11
        have hb11 := put_facts hb10 (by omega) p11
        refine ⟨rfl, undef, rfl, hS _ hb11, ?_⟩
        refine wpAnyH_done (by kernel_rfl) ?_ _
        exact ⟨rfl, w7.heap.size, (w7.heap.size + 1), ⟨by omega, by omega, by omega, StrBox.away b10 p11 (by omega), b11, hb11⟩, rfl⟩
      · go_wp2_with fail
        refine ⟨hS _ ((Below.refl _ _).alloc (Nat.le_refl _) _), ?_⟩
        refine anyH_one (i := 2) rfl (by kernel_rfl) rfl (fun cs b h => by cases h) (fun d h => by cases h; exact of_decide_eq_true rfl) ?_
        go_wp2_with fail
        refine ⟨hS _ hb9', ?_⟩
        refine anyH_one (i := 4) rfl (by kernel_rfl) rfl (fun cs b h => by cases h) (fun d h => by cases h) ?_
        refine st_str (g := (w7.heap.size + 1)) (u := StrA.zero) (u' := us) hn2 rfl _ _ rfl rfl rfl ?_
        intro W10 b10 p10
        have hb10 := put_facts hb9 (by omega) p10
        refine ⟨rfl, undef, rfl, hS _ hb10, ?_⟩
        refine anyH_one (i := 5) rfl (by kernel_rfl) rfl (fun cs b h => by cases h) (fun d h => by cases h) ?_
        refine st_str (g := w7.heap.size) (u := StrA.zero) (u' := ut) (StrBox.away hn1 p10 (by omega)) rfl _ _ rfl rfl rfl ?_
        intro W11 b11 p11
        have hb11 := put_facts hb10 (by omega) p11
        refine ⟨rfl, undef, rfl, hS _ hb11, ?_⟩
        refine wpAnyH_done (by kernel_rfl) ?_ _
        exact ⟨rfl, (w7.heap.size + 1), w7.heap.size, ⟨by omega, by omega, by omega, StrBox.away b10 p11 (by omega), b11, hb11⟩, rfl⟩
    · intro g15 g16 w8 hR
      obtain ⟨hgh, hg15, hg16, bs8, bt8, hb8⟩ := hR
      have HWz := Lib.hid (below_then HWw.out hb8)
      have BS8 := Lib.hid bs8
      have BT8 := Lib.hid bt8
      have HUA8 := Lib.hid (HUAw.out.grow hb8)
      have HTA8 := Lib.hid (HTAw.out.grow hb8)
      have BN8 := Lib.hid (Box.keep BNw.out hb8)
      have BE8 := Lib.hid (EvBox.keep BEw.out hb8)
      have HN8 := Lib.hid (HNw.out.grow hb8)
      have HSX := Lib.hid hg15
      have HSY := Lib.hid hg16
      have HGH := Lib.hid hgh
      have HOO := Lib.hid (HO.out.grow HWz.out)
      have HB8 := Lib.hid hb8
      clear hgh hg15 hg16 bs8 bt8 hb8 BSw BTw HUAw HTAw hu hd
      simp only [Act.put, List.setIfInBounds_toArray, List.set_cons_zero, List.set_cons_succ]
      clear BNw BEw HNw HWw BN8 HN8 HB8
      have BSa := BS8
      have BSb := BT8
      have HUa := HUA8
      have HUb := HTA8
      have HDa := HUD
      have HDb := HTD
      have BEt := BE8
      have HOt := HOO
      have HWt := HWz
      clear BS8 BT8 HUA8 HTA8 BE8 HOO HWz
      go_upto_region 13 with fail
      obtain ⟨FE, hFE⟩ : ∃ x, D.feedE o = x := ⟨_, rfl⟩
      obtain ⟨FD, hFD⟩ : ∃ x, D.feedD o = x := ⟨_, rfl⟩
      obtain ⟨FO, hFO⟩ : ∃ x, D.feedO o = x := ⟨_, rfl⟩
      have hsm := feedD_small D o
      have hfo := feedO_small D o
      have CF : Hid (∀ w1, Below w8.heap.size w8 w1 → Calls Try.prog 14 #[us.v, o.v] w1 (RetFeed w1 FD FO FE)) := fun w1 hb => by
        have := st_Feed us o w1 (HUa.out.grow hb) (HOt.out.grow hb)
        rw [HDa.out, hFE, hFD, hFO] at this; exact this
      have CG : Hid (∀ w1, Below w8.heap.size w8 w1 → Calls Try.prog 15 #[ut.v, o.v] w1 (FeedR FD FO FE w1)) := fun w1 hb => by
        have := r42_Feed ut o w1 (HUb.out.grow hb) (HOt.out.grow hb)
        rw [HDb.out, hFE, hFD, hFO] at this
        exact this.mono fun e w' h => feedM_R h
      rw [hFD] at hsm
      rw [hFO] at hfo
      have HSM2 := Lib.hid hsm
      have HFO : Hid (FO.length ≤ 1000000) := by show _ ≤ _; have := HN0.out; omega
      clear hFE hFD hFO hsm hfo HUa HUb HDa HDb HOt
      go_upto_region 14 with (first
        | ((with_reducible show wpList _ _ _ (Oper.mk (some 100) (.load _ _) _ _ _ _ :: _) _ _); refine ld_str BSa.out rfl _ rfl rfl ?_)
        | ((with_reducible show wpList _ _ _ (Oper.mk (some 101) (.load _ _) _ _ _ _ :: _) _ _); refine ld_ev BEt.out rfl _ rfl rfl ?_)
        | (go_at_call 14; (with_reducible refine (CF.out _ (Below.refl _ _)).mono ?_); rintro e1 w20 ⟨u2, PA, pc, rfl, h2d, h2f, h2i, hb20⟩)
        | ((with_reducible show wpList _ _ _ (Oper.mk _ (.store _ _ _) _ _ _ _ :: _) _ _); refine st_str (u := StrA.zero) (w := w20.alloc (.cells StrA.zero.cells.toArray 39)) (g := w20.heap.size) (Box.new rfl) rfl _ _ rfl rfl rfl ?_; intro W20 bs20 p20))
      have hp20 := put_facts ((Below.refl w20.heap.size w20).alloc (Nat.le_refl _) (.cells StrA.zero.cells.toArray 39)) (Nat.le_refl _) p20
      have HB20 := Lib.hid (below_then hb20 hp20)
      have B20 := Lib.hid bs20
      have HA20 := Lib.hid (h2f.at.grow hp20)
      have HI20 := Lib.hid (h2i.1.grow hp20)
      have HD20 := Lib.hid h2d
      have BSb2 := Lib.hid (StrBox.keep BSb.out HB20.out)
      have BEt2 := Lib.hid (EvBox.keep BEt.out HB20.out)
      generalize w20.heap.size = g17 at B20 ⊢
      clear h2d h2f h2i hb20 bs20 p20 hp20 CF BSa BSb BEt
      go_upto_region 15 with (first
        | ((with_reducible show wpList _ _ _ (Oper.mk (some 107) (.load _ _) _ _ _ _ :: _) _ _); refine ld_str BSb2.out rfl _ rfl rfl ?_)
        | ((with_reducible show wpList _ _ _ (Oper.mk (some 108) (.load _ _) _ _ _ _ :: _) _ _); refine ld_ev BEt2.out rfl _ rfl rfl ?_)
        | (go_at_call 15; (with_reducible refine (CG.out _ HB20.out).mono ?_); rintro e1 w21 ⟨v2, QA, qc, rfl, k2d, k2a, k2i, hb21⟩)
        | ((with_reducible show wpList _ _ _ (Oper.mk _ (.store _ _ _) _ _ _ _ :: _) _ _); refine st_str (u := StrA.zero) (w := w21.alloc (.cells StrA.zero.cells.toArray 39)) (g := w21.heap.size) (Box.new rfl) rfl _ _ rfl rfl rfl ?_; intro W21 bs21 p21))
      have hp21 := put_facts ((Below.refl w21.heap.size w21).alloc (Nat.le_refl _) (.cells StrA.zero.cells.toArray 39)) (Nat.le_refl _) p21
      have hb2021 := below_then hb21 hp21
      have HW21 := Lib.hid (below_then HWt.out (below_then HB20.out hb2021))
      have B21 := Lib.hid bs21
      have B20' := Lib.hid (StrBox.keep B20.out hb2021)
      have HA20' := Lib.hid (HA20.out.grow hb2021)
      have HI20' := Lib.hid (HI20.out.grow hb2021)
      have HA21 := Lib.hid (k2a.grow hp21)
      have HI21 := Lib.hid (k2i.grow hp21)
      have HDV : Hid (v2.d = u2.d) := k2d.trans HD20.out.symm
      generalize w21.heap.size = g20 at B21 ⊢
      clear k2d k2a k2i hb21 bs21 p21 hp21 hb2021 CG BSb2 BEt2 B20 HA20 HI20 HB20
      have CI2 : Hid (∀ w1, Below W21.heap.size W21 w1 → Calls Try.prog 9 #[.slice PA FO.length pc, .slice QA FO.length qc] w1 fun e1 w' => e1 = .returned (.bool true) ∧ Below w1.heap.size w1 w') := fun w1 hb => rf_SameN PA QA FO FO pc qc _ _ w1 rfl rfl HFO.out rfl (HI20'.out.grow hb) (HI21.out.grow hb)
      have CS2 : Hid (∀ w1, Below W21.heap.size W21 w1 → Calls Try.prog 10 #[u2.v, v2.v] w1 fun e1 w' => e1 = .returned (.bool true) ∧ Below w1.heap.size w1 w') := fun w1 hb => by
        have hs := HSM2.out
        rw [← HD20.out] at hs
        exact r42_Same u2 v2 w1 HDV.out (HA20'.out.grow hb) (HA21.out.grow hb) (Nat.le_trans hs.1.1 (by decide)) (Nat.le_trans hs.2.1.1 (by decide)) (Nat.le_trans hs.2.2.1 (by decide)) (Nat.le_trans hs.2.2.2 (by decide))
      go_wp2_with (first
        | (go_at_call 4; (with_reducible refine (known42 _).mono ?_); rintro e1 w22 ⟨rfl, hb22⟩; have b20 := StrBox.keep B20'.out hb22; have b21 := StrBox.keep B21.out hb22)
        | ((with_reducible show wpList _ _ _ (Oper.mk (some 128) (.load _ _) _ _ _ _ :: _) _ _); refine ld_strW b20 rfl _ rfl rfl ?_)
        | ((with_reducible show wpList _ _ _ (Oper.mk (some 129) (.load _ _) _ _ _ _ :: _) _ _); refine ld_strW b21 rfl _ rfl rfl ?_)
        | (go_at_call 10; (with_reducible refine (CS2.out _ hb22).mono ?_); rintro e1 w23 ⟨rfl, hb23⟩; have hb24 := below_then hb22 hb23)
        | (go_at_call 9; (with_reducible refine (CI2.out _ hb24).mono ?_); rintro e1 w24 ⟨rfl, hb25⟩; have hb26 := below_then hb24 hb25))
      go_ret
      exact ⟨rfl, below_then HW21.out hb26⟩
  · have hEd : decide (E = 0) = false := decide_eq_false hE0
    clear CV
    go_upto_region 9 with (first
      | (go_at_call 9; (with_reducible refine (CI.out _ (Below.refl _ _)).mono ?_); rintro e1 w5 ⟨rfl, hb5⟩; have bs5 := StrBox.keep BS4.out hb5; have bt5 := StrBox.keep BT4.out hb5)
      | ((with_reducible show wpList _ _ _ (Oper.mk (some 71) (.load _ _) _ _ _ _ :: _) _ _); refine ld_strW bs5 rfl _ rfl rfl ?_)
      | ((with_reducible show wpList _ _ _ (Oper.mk (some 72) (.load _ _) _ _ _ _ :: _) _ _); refine ld_strW bt5 rfl _ rfl rfl ?_)
      | (go_at_call 10; (with_reducible refine (CS.out _ hb5).mono ?_); rintro e1 w6 ⟨rfl, hb6⟩; have hb46 := below_then hb5 hb6; have bs6 := StrBox.keep bs5 hb6))
    have HWw := Lib.hid (below_then HW4.out hb46)
    have BSw := Lib.hid (StrBox.keep BS4.out hb46)
    have BTw := Lib.hid (StrBox.keep BT4.out hb46)
    have HUAw := Lib.hid (HUA.out.grow hb46)
    have HTAw := Lib.hid (HTA.out.grow hb46)
    have BNw := Lib.hid (Box.keep BN4.out hb46)
    have BEw := Lib.hid (EvBox.keep BE4.out hb46)
    have HNw := Lib.hid (HN4.out.grow hb46)
    clear bs5 bt5 bs6 CI CS BS4 BT4 HUA HTA BN4 BE4 HN4 HW4 hb46
    obtain ⟨td, hu, hd⟩ := row_str
    refine two_post (fun g h w' => g ≠ h ∧ w6.heap.size ≤ g ∧ w6.heap.size ≤ h ∧ StrBox w' g us ∧ StrBox w' h ut ∧ Below w6.heap.size w6 w') 85 86 15 16 us.v ut.v ?_ ?_
    · refine wp_region_held (S := fun w' => w'.rangeAt g10 0 us.cells ∧ w'.rangeAt g13 0 ut.cells) (by kernel_rfl) ?_
      have hdr : Below w6.heap.size w6 w6.drew := (Below.refl _ _).drew
      have hS : ∀ w', Below w6.heap.size w6 w' → w'.rangeAt g10 0 us.cells ∧ w'.rangeAt g13 0 ut.cells := fun w' hb => ⟨Box.range (StrBox.keep BSw.out hb).box (str_in us), Box.range (StrBox.keep BTw.out hb).box (str_in ut)⟩
      refine wpAnyH_take (i := 0) (oi := _) (v := us.v) rfl (by kernel_rfl) (by kernel_rfl) (by kernel_rfl) (fun _ _ _ h => by cases h.1) (yieldsIf_load_mid (by kernel_rfl) _ _ rfl g10 0 rfl us.cells td (fun w h => h.1) hu hd size_str) (hS _ hdr) ?_
      refine wpAnyH_take (i := 1) (oi := _) (v := ut.v) rfl (by kernel_rfl) (by kernel_rfl) (by kernel_rfl) (fun _ _ _ h => by cases h.1) (yieldsIf_load_mid (by kernel_rfl) _ _ rfl g13 0 rfl ut.cells td (fun w h => h.2) hu hd size_str) (hS _ hdr) ?_
      obtain ⟨hn1, hn2, hb9, hb9'⟩ := newSS w6 _ rfl
      refine anyH_two (i := 2) (j := 3) rfl rfl (by kernel_rfl) rfl rfl (fun cs b h => by cases h) (fun cs b h => by cases h) (fun d h => by cases h; exact of_decide_eq_true rfl) (fun d h => by cases h; exact of_decide_eq_true rfl) ?_ ?_
      · go_wp2_with fail
        refine ⟨hS _ ((Below.refl _ _).alloc (Nat.le_refl _) _), ?_⟩
        refine anyH_one (i := 3) rfl (by kernel_rfl) rfl (fun cs b h => by cases h) (fun d h => by cases h; exact of_decide_eq_true rfl) ?_
        go_wp2_with fail
        refine ⟨hS _ hb9', ?_⟩
        refine anyH_one (i := 4) rfl (by kernel_rfl) rfl (fun cs b h => by cases h) (fun d h => by cases h) ?_
        refine st_str (g := w6.heap.size) (u := StrA.zero) (u' := us) hn1 rfl _ _ rfl rfl rfl ?_
        intro W10 b10 p10
        have hb10 := put_facts hb9 (by omega) p10
        refine ⟨rfl, undef, rfl, hS _ hb10, ?_⟩
        refine anyH_one (i := 5) rfl (by kernel_rfl) rfl (fun cs b h => by cases h) (fun d h => by cases h) ?_
        refine st_str (g := (w6.heap.size + 1)) (u := StrA.zero) (u' := ut) (StrBox.away hn2 p10 (by omega)) rfl _ _ rfl rfl rfl ?_
        intro W11 b11 p11
        have hb11 := put_facts hb10 (by omega) p11
        refine ⟨rfl, undef, rfl, hS _ hb11, ?_⟩
        refine wpAnyH_done (by kernel_rfl) ?_ _
        exact ⟨rfl, w6.heap.size, (w6.heap.size + 1), ⟨by omega, by omega, by omega, StrBox.away b10 p11 (by omega), b11, hb11⟩, rfl⟩
      · go_wp2_with fail
        refine ⟨hS _ ((Below.refl _ _).alloc (Nat.le_refl _) _), ?_⟩
        refine anyH_one (i := 2) rfl (by kernel_rfl) rfl (fun cs b h => by cases h) (fun d h => by cases h; exact of_decide_eq_true rfl) ?_
        go_wp2_with fail
        refine ⟨hS _ hb9', ?_⟩
        refine anyH_one (i := 4) rfl (by kernel_rfl) rfl (fun cs b h => by cases h) (fun d h => by cases h) ?_
        refine st_str (g := (w6.heap.size + 1)) (u := StrA.zero) (u' := us) hn2 rfl _ _ rfl rfl rfl ?_
        intro W10 b10 p10
        have hb10 := put_facts hb9 (by omega) p10
        refine ⟨rfl, undef, rfl, hS _ hb10, ?_⟩
        refine anyH_one (i := 5) rfl (by kernel_rfl) rfl (fun cs b h => by cases h) (fun d h => by cases h) ?_
        refine st_str (g := w6.heap.size) (u := StrA.zero) (u' := ut) (StrBox.away hn1 p10 (by omega)) rfl _ _ rfl rfl rfl ?_
        intro W11 b11 p11
        have hb11 := put_facts hb10 (by omega) p11
        refine ⟨rfl, undef, rfl, hS _ hb11, ?_⟩
        refine wpAnyH_done (by kernel_rfl) ?_ _
        exact ⟨rfl, (w6.heap.size + 1), w6.heap.size, ⟨by omega, by omega, by omega, StrBox.away b10 p11 (by omega), b11, hb11⟩, rfl⟩
    · intro g15 g16 w8 hR
      obtain ⟨hgh, hg15, hg16, bs8, bt8, hb8⟩ := hR
      have HWz := Lib.hid (below_then HWw.out hb8)
      have BS8 := Lib.hid bs8
      have BT8 := Lib.hid bt8
      have HUA8 := Lib.hid (HUAw.out.grow hb8)
      have HTA8 := Lib.hid (HTAw.out.grow hb8)
      have BN8 := Lib.hid (Box.keep BNw.out hb8)
      have BE8 := Lib.hid (EvBox.keep BEw.out hb8)
      have HN8 := Lib.hid (HNw.out.grow hb8)
      have HSX := Lib.hid hg15
      have HSY := Lib.hid hg16
      have HGH := Lib.hid hgh
      have HOO := Lib.hid (HO.out.grow HWz.out)
      have HB8 := Lib.hid hb8
      clear hgh hg15 hg16 bs8 bt8 hb8 BSw BTw HUAw HTAw hu hd
      simp only [Act.put, List.setIfInBounds_toArray, List.set_cons_zero, List.set_cons_succ]
      clear HUA8 HTA8 HDD HUD HTD
      have CO1 : Hid (Calls Try.prog 12 #[.agg (n.lst NA nc XA xc).toArray] w8 (RetOpen w8 n)) := st_Open n NA XA nc xc w8 HN8.out HOK.out
      go_upto_region 12 with (first
        | ((with_reducible show wpList _ _ _ (Oper.mk (some 90) (.load _ _) _ _ _ _ :: _) _ _); refine ld_netB1 BN8.out rfl rfl _ rfl rfl ?_)
        | (go_at_call 12; (with_reducible refine CO1.out.mono ?_); rintro e1 w9 ⟨uo, rfl, hod, hof, hb9⟩; have bs9 := StrBox.keep BS8.out hb9)
        | ((with_reducible show wpList _ _ _ (Oper.mk _ (.store _ _ _) _ _ _ _ :: _) _ _); refine st_str (u' := uo) bs9 rfl _ _ rfl rfl rfl ?_; intro W9 bo9 p9))
      have hbX9 := put_facts (below_then HB8.out hb9) HSX.out p9
      have HB9 := Lib.hid hbX9
      have BSa9 := Lib.hid bo9
      have BT9 := Lib.hid (StrBox.away (StrBox.keep BT8.out hb9) p9 (fun e => HGH.out e.symm))
      have HOF := Lib.hid (hof.away p9 BS8.out.1)
      have HOD := Lib.hid hod
      have HS9 : Hid (g16 < w8.heap.size) := BT8.out.1
      have HS89 : Hid (w8.heap.size ≤ W9.heap.size) := Nat.le_trans hb9.size p9.size
      have CO2 : Hid (Calls Try.prog 13 #[.agg (n.lst NA nc XA xc).toArray] W9 (RetOpenR W9 n NA nc XA xc)) := r42_Open n NA XA nc xc W9 (HNw.out.grow hbX9) HOK.out
      have BN9 := Lib.hid (Box.keep BNw.out hbX9)
      clear hod hof hb9 bs9 bo9 p9 hbX9 CO1 BN8 HN8 BS8 BT8 BE8 HOO HWz
      go_upto_region 13 with (first
        | ((with_reducible show wpList _ _ _ (Oper.mk (some 95) (.load _ _) _ _ _ _ :: _) _ _); refine ld_netB1 BN9.out rfl rfl _ rfl rfl ?_)
        | (go_at_call 13; (with_reducible refine CO2.out.mono ?_); rintro e1 w10 ⟨QQ, qq, rfl, hoi, hb10⟩; have bs10 := StrBox.keep BT9.out hb10)
        | ((with_reducible show wpList _ _ _ (Oper.mk _ (.store _ _ _) _ _ _ _ :: _) _ _); refine st_str (u' := openA n NA nc XA xc QQ qq) bs10 rfl _ _ rfl rfl rfl ?_; intro W10 bo10 p10))
      have hbX10 := put_facts (below_then HB9.out hb10) HSY.out p10
      have BSa := Lib.hid (StrBox.away (StrBox.keep BSa9.out hb10) p10 HGH.out)
      have BSb := Lib.hid bo10
      have HUa := Lib.hid ((HOF.out.grow hb10).away p10 HS9.out).at
      have HUb : Hid (StrAt W10 (openA n NA nc XA xc QQ qq)) := by
        obtain ⟨-, -, ⟨p2, p3⟩, -⟩ := netB_parts HOK.out
        exact openA_at (HNw.out.grow hbX10) (hoi.away p10 (Nat.lt_of_lt_of_le HS9.out HS89.out)).1 p3
      have HDa := HOD
      have HDb : Hid ((openA n NA nc XA xc QQ qq).d = openD n) := rfl
      have BEt := Lib.hid (EvBox.keep BEw.out hbX10)
      have HWt := Lib.hid (below_then HWw.out hbX10)
      have HOt := Lib.hid (HO.out.grow HWt.out)
      clear hoi hb10 bs10 bo10 p10 hbX10 CO2 BN9 BSa9 BT9 HOF HOD HS9 HS89 HB9 HB8 BNw BEw HNw HWw
      obtain ⟨FE, hFE⟩ : ∃ x, (openD n).feedE o = x := ⟨_, rfl⟩
      obtain ⟨FD, hFD⟩ : ∃ x, (openD n).feedD o = x := ⟨_, rfl⟩
      obtain ⟨FO, hFO⟩ : ∃ x, (openD n).feedO o = x := ⟨_, rfl⟩
      have hsm := feedD_small (openD n) o
      have hfo := feedO_small (openD n) o
      have CF : Hid (∀ w1, Below W10.heap.size W10 w1 → Calls Try.prog 14 #[uo.v, o.v] w1 (RetFeed w1 FD FO FE)) := fun w1 hb => by
        have := st_Feed uo o w1 (HUa.out.grow hb) (HOt.out.grow hb)
        rw [HDa.out, hFE, hFD, hFO] at this; exact this
      have CG : Hid (∀ w1, Below W10.heap.size W10 w1 → Calls Try.prog 15 #[(openA n NA nc XA xc QQ qq).v, o.v] w1 (FeedR FD FO FE w1)) := fun w1 hb => by
        have := r42_Feed (openA n NA nc XA xc QQ qq) o w1 (HUb.out.grow hb) (HOt.out.grow hb)
        rw [HDb.out, hFE, hFD, hFO] at this
        exact this.mono fun e w' h => feedM_R h
      rw [hFD] at hsm
      rw [hFO] at hfo
      have HSM2 := Lib.hid hsm
      have HFO : Hid (FO.length ≤ 1000000) := by show _ ≤ _; have := HN0.out; omega
      clear hFE hFD hFO hsm hfo HUa HUb HDa HDb HOt
      go_upto_region 14 with (first
        | ((with_reducible show wpList _ _ _ (Oper.mk (some 100) (.load _ _) _ _ _ _ :: _) _ _); refine ld_str BSa.out rfl _ rfl rfl ?_)
        | ((with_reducible show wpList _ _ _ (Oper.mk (some 101) (.load _ _) _ _ _ _ :: _) _ _); refine ld_ev BEt.out rfl _ rfl rfl ?_)
        | (go_at_call 14; (with_reducible refine (CF.out _ (Below.refl _ _)).mono ?_); rintro e1 w20 ⟨u2, PA, pc, rfl, h2d, h2f, h2i, hb20⟩)
        | ((with_reducible show wpList _ _ _ (Oper.mk _ (.store _ _ _) _ _ _ _ :: _) _ _); refine st_str (u := StrA.zero) (w := w20.alloc (.cells StrA.zero.cells.toArray 39)) (g := w20.heap.size) (Box.new rfl) rfl _ _ rfl rfl rfl ?_; intro W20 bs20 p20))
      have hp20 := put_facts ((Below.refl w20.heap.size w20).alloc (Nat.le_refl _) (.cells StrA.zero.cells.toArray 39)) (Nat.le_refl _) p20
      have HB20 := Lib.hid (below_then hb20 hp20)
      have B20 := Lib.hid bs20
      have HA20 := Lib.hid (h2f.at.grow hp20)
      have HI20 := Lib.hid (h2i.1.grow hp20)
      have HD20 := Lib.hid h2d
      have BSb2 := Lib.hid (StrBox.keep BSb.out HB20.out)
      have BEt2 := Lib.hid (EvBox.keep BEt.out HB20.out)
      generalize w20.heap.size = g17 at B20 ⊢
      clear h2d h2f h2i hb20 bs20 p20 hp20 CF BSa BSb BEt
      go_upto_region 15 with (first
        | ((with_reducible show wpList _ _ _ (Oper.mk (some 107) (.load _ _) _ _ _ _ :: _) _ _); refine ld_str BSb2.out rfl _ rfl rfl ?_)
        | ((with_reducible show wpList _ _ _ (Oper.mk (some 108) (.load _ _) _ _ _ _ :: _) _ _); refine ld_ev BEt2.out rfl _ rfl rfl ?_)
        | (go_at_call 15; (with_reducible refine (CG.out _ HB20.out).mono ?_); rintro e1 w21 ⟨v2, QA, qc, rfl, k2d, k2a, k2i, hb21⟩)
        | ((with_reducible show wpList _ _ _ (Oper.mk _ (.store _ _ _) _ _ _ _ :: _) _ _); refine st_str (u := StrA.zero) (w := w21.alloc (.cells StrA.zero.cells.toArray 39)) (g := w21.heap.size) (Box.new rfl) rfl _ _ rfl rfl rfl ?_; intro W21 bs21 p21))
      have hp21 := put_facts ((Below.refl w21.heap.size w21).alloc (Nat.le_refl _) (.cells StrA.zero.cells.toArray 39)) (Nat.le_refl _) p21
      have hb2021 := below_then hb21 hp21
      have HW21 := Lib.hid (below_then HWt.out (below_then HB20.out hb2021))
      have B21 := Lib.hid bs21
      have B20' := Lib.hid (StrBox.keep B20.out hb2021)
      have HA20' := Lib.hid (HA20.out.grow hb2021)
      have HI20' := Lib.hid (HI20.out.grow hb2021)
      have HA21 := Lib.hid (k2a.grow hp21)
      have HI21 := Lib.hid (k2i.grow hp21)
      have HDV : Hid (v2.d = u2.d) := k2d.trans HD20.out.symm
      generalize w21.heap.size = g20 at B21 ⊢
      clear k2d k2a k2i hb21 bs21 p21 hp21 hb2021 CG BSb2 BEt2 B20 HA20 HI20 HB20
      have CI2 : Hid (∀ w1, Below W21.heap.size W21 w1 → Calls Try.prog 9 #[.slice PA FO.length pc, .slice QA FO.length qc] w1 fun e1 w' => e1 = .returned (.bool true) ∧ Below w1.heap.size w1 w') := fun w1 hb => rf_SameN PA QA FO FO pc qc _ _ w1 rfl rfl HFO.out rfl (HI20'.out.grow hb) (HI21.out.grow hb)
      have CS2 : Hid (∀ w1, Below W21.heap.size W21 w1 → Calls Try.prog 10 #[u2.v, v2.v] w1 fun e1 w' => e1 = .returned (.bool true) ∧ Below w1.heap.size w1 w') := fun w1 hb => by
        have hs := HSM2.out
        rw [← HD20.out] at hs
        exact r42_Same u2 v2 w1 HDV.out (HA20'.out.grow hb) (HA21.out.grow hb) (Nat.le_trans hs.1.1 (by decide)) (Nat.le_trans hs.2.1.1 (by decide)) (Nat.le_trans hs.2.2.1 (by decide)) (Nat.le_trans hs.2.2.2 (by decide))
      go_wp2_with (first
        | (go_at_call 4; (with_reducible refine (known42 _).mono ?_); rintro e1 w22 ⟨rfl, hb22⟩; have b20 := StrBox.keep B20'.out hb22; have b21 := StrBox.keep B21.out hb22)
        | ((with_reducible show wpList _ _ _ (Oper.mk (some 128) (.load _ _) _ _ _ _ :: _) _ _); refine ld_strW b20 rfl _ rfl rfl ?_)
        | ((with_reducible show wpList _ _ _ (Oper.mk (some 129) (.load _ _) _ _ _ _ :: _) _ _); refine ld_strW b21 rfl _ rfl rfl ?_)
        | (go_at_call 10; (with_reducible refine (CS2.out _ hb22).mono ?_); rintro e1 w23 ⟨rfl, hb23⟩; have hb24 := below_then hb22 hb23)
        | (go_at_call 9; (with_reducible refine (CI2.out _ hb24).mono ?_); rintro e1 w24 ⟨rfl, hb25⟩; have hb26 := below_then hb24 hb25))
      go_ret
      exact ⟨rfl, below_then HW21.out hb26⟩
end Go.Proofs.Ytgabfdappeakiaa
