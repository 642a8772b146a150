/- A change in Feed of the reference of layer 42, where it goes through. -/
import Derived.Test.YtgabfdappeakiaaTl
import Derived.Test.YtgabfdappeakiaaTk2
import Derived.Test.YtgabfdappeakiaaTm
import Derived.Test.YtgabfdappeakiaaTi
set_option linter.unusedVariables false
set_option linter.unusedSimpArgs false
namespace Go.Proofs.Ytgabfdappeakiaa
open Go.RowKit

theorem StrBox.veil {w : World} {g : Nat} {u : StrA} (h : StrBox w g u) : ∃ U, U = u ∧ StrBox w g U := ⟨u, rfl, h⟩
theorem laid_net (u : StrA) (fd E : Int) : ∀ j : Nat, j < u.netL.length → (StrA.laid { u with d := { u.d with ev := E } } fd).cells[12 + j]? = u.netL[j]?
  | 0, _ => rfl | 1, _ => rfl | 2, _ => rfl | 3, _ => rfl | 4, _ => rfl | 5, _ => rfl | 6, _ => rfl | 7, _ => rfl | 8, _ => rfl | 9, _ => rfl | 10, _ => rfl | 11, _ => rfl
  | j + 12, h => absurd (show j + 12 < 12 from h) (by omega)
set_option maxRecDepth 100000 in
set_option maxHeartbeats 16000000 in
theorem r42_Feed_ch (u : StrA) (e : EvA) (w : World) (hu : StrAt w u) (hg : u.d.Good) (he : EvAt w e) (hk : e.kind = 2) (h0 : u.d.chE e = 0) :
    Calls Try.prog 15 #[u.v, e.v] w (RetFeedM w u e { u.d.chOk e with ev := u.d.ev + 1 } [] 0) := by
  obtain ⟨hok, hsm, ⟨hf1, hf2⟩, hl0⟩ := chOk_parts hg h0
  obtain ⟨-, -, ⟨hst1, hst2⟩, -, hst3, -, -, -, -⟩ := netB_parts hok
  obtain ⟨hokn, hs64, -⟩ := good_lens hg
  have hsst : (u.d.s.length : Int) = u.d.net.st := (state_iff.1 hg.2.1).1
  obtain ⟨n, hn⟩ : ∃ n : Nat, e.net.st = (n : Int) := ⟨e.net.st.toNat, by omega⟩
  have hn64 : n ≤ 64 := by omega
  have hev := hg.2.2.1
  have hgz : u.d.fade = 0 ∧ u.d.old = NetD.zero ∧ u.d.f = [] := by
    obtain ⟨-, -, -, -, -, h | h⟩ := hg
    · exact ⟨h.2.1, NetD.isZero_iff.1 h.2.2.1, List.eq_nil_of_length_eq_zero h.2.2.2⟩
    · exact absurd hl0 h.1
  have CV : Hid (∀ w1, Below w.heap.size w w1 → Calls Try.prog 30 #[u.v] w1 fun e1 w' => e1 = .returned (.bool true) ∧ Below w1.heap.size w1 w') := fun w1 hb => by
    have := r42_Valid u w1 (hu.grow hb)
    rw [decide_eq_true hg] at this; exact this
  have CN : Hid (∀ w1, Below w.heap.size w w1 → Calls Try.prog 27 #[.agg e.netL.toArray] w1 fun e1 w' => e1 = .returned (.bool true) ∧ Below w1.heap.size w1 w') := fun w1 hb => by
    have h := he.net.grow hb
    have := r22_Valid e.net.d0 e.net.d1 e.net.d2 e.net.d3 e.net.c0 e.net.c1 e.net.c2 e.net.c3 e.net.st e.net.out e.NA e.XA e.nc e.xc e.net.ns e.net.nx w1 h.nodes h.next h.n1 h.n2 h.n3 h.st
    rw [show netB _ _ _ _ _ _ _ _ _ _ _ _ = true from hok] at this; exact this
  have I1 : Hid (∀ w1, Calls Try.prog 32 #[.int .i64 e.fade, .int .i64 0, .int .i64 4096] w1 fun e1 w' => e1 = .returned (.bool true) ∧ w1 = w') := fun w1 => by have := rf_In e.fade 0 4096 w1; rw [inB_iff.2 ⟨hf1, hf2⟩] at this; exact this
  unfold NetD.same at hsm
  obtain ⟨s0, s1, s2, s3⟩ := of_decide_eq_true hsm
  have HU := Lib.hid hu
  have HE := Lib.hid he
  have HK := Lib.hid hk
  have HN := Lib.hid hn
  have HSST := Lib.hid hsst
  have HL0 := Lib.hid hl0
  have HGZ := Lib.hid hgz
  clear hu hg he hk h0 hok hsm hst1 hst2 hst3 hokn hsst hl0 hgz hn
  go_enter Try.func15, Try.ntmps15
  go_upto_region 1 with fail
  obtain ⟨bx0, be0, bz0, hb0, hs0⟩ := entry3 w u e _ rfl
  change Code.wp _ _ _ _ (((w.alloc (.cells u.cells.toArray 39)).alloc (.cells e.cells.toArray 33)).alloc (.cells StrA.zero.cells.toArray 39))
  generalize (((w.alloc (.cells u.cells.toArray 39)).alloc (.cells e.cells.toArray 33)).alloc (.cells StrA.zero.cells.toArray 39)) = W0 at bx0 be0 bz0 hb0 hs0 ⊢
  have BX0 := Lib.hid bx0
  have BE0 := Lib.hid be0
  have BZ0 := Lib.hid bz0
  have HB0 := Lib.hid hb0
  clear bx0 be0 bz0 hb0
  go_upto_region 3 with (first
    | ((with_reducible show wpList _ _ _ (Oper.mk _ (.load _ _) _ _ _ _ :: _) _ _); refine ld_str BX0.out rfl _ rfl rfl ?_)
    | (go_at_call 30; (with_reducible refine (CV.out _ HB0.out).mono ?_); rintro e1 w1 ⟨rfl, hb1⟩; have bx1 := BX0.out.keep hb1; have be1 := BE0.out.keep hb1; have bz1 := BZ0.out.keep hb1; have hw1 := below_then HB0.out hb1; have hs1 := hb1.size; obtain ⟨⟨a1, a2, a3, a4⟩, ⟨a5, a6, a7, a8⟩, a9, a10, a11, a12⟩ := bx1.net; obtain ⟨r1, r2, r3, r4, r5⟩ := bx1.rest; obtain ⟨v1, v2, ⟨v3, v4, v5, v6⟩, v7, v8⟩ := be1.c; rw [HK.out] at v1; rw [HN.out] at v7; rw [← HSST.out] at a9; rw [HL0.out] at r4))
  go_upto_region 9 with fail
  go_upto_region 11 with (first
    | ((with_reducible show wpList _ _ _ (Oper.mk _ (.load _ _) _ _ _ _ :: _) _ _); refine ld_evnetW be1 rfl _ rfl rfl ?_)
    | (go_at_call 27; (with_reducible refine (CN.out _ hw1).mono ?_); rintro e2 w2 ⟨rfl, hb2⟩; have bx2 := bx1.keep hb2; have be2 := be1.keep hb2; have bz2 := bz1.keep hb2; have hw2 := below_then hw1 hb2; have hs2 := hb2.size; clear r1 r2 r3 r4 r5 a1 a2 a3 a4 a5 a6 a7 a8 a9 a10 a11 a12 v1 v2 v3 v4 v5 v6 v7 v8; obtain ⟨⟨a1, a2, a3, a4⟩, ⟨a5, a6, a7, a8⟩, a9, a10, a11, a12⟩ := bx2.net; obtain ⟨r1, r2, r3, r4, r5⟩ := bx2.rest; obtain ⟨v1, v2, ⟨v3, v4, v5, v6⟩, v7, v8⟩ := be2.c; rw [HK.out] at v1; rw [HN.out] at v7; rw [← HSST.out] at a9; rw [HL0.out] at r4; have hfr2 := bx2.2.2; have hl2 := bx2.1))
  go_upto_region 13 with (go_at_call 32; (with_reducible refine (I1.out _).mono ?_); rintro e3 w3 ⟨rfl, rfl⟩)
  go_upto_region 16 with fail
  obtain ⟨bx3, pg3⟩ := bx2.setEv (u.d.ev + 1)
  generalize (w2.setCell ⟨w.heap.size, 28, none⟩ (.int .i64 (u.d.ev + 1))) = W3 at bx3 pg3 ⊢
  have be3 := be2.away pg3 (by omega)
  have bz3 := bz2.away pg3 (by omega)
  have hw3 := put_facts hw2 (Nat.le_refl _) pg3
  have hs3 : w.heap.size + 3 ≤ W3.heap.size := Nat.le_trans hs0 (Nat.le_trans hs1 (Nat.le_trans hs2 pg3.size))
  clear hfr2 hl2 pg3 bx2 be2 bz2 hw2 bx1 be1 bz1 hw1 hb1 hb2 hs0 hs1 hs2 BX0 BE0 BZ0 HB0 CV CN I1
  clear r1 r2 r3 r4 r5 a1 a2 a3 a4 a5 a6 a7 a8 a9 a10 a11 a12 v1 v2 v3 v4 v5 v6 v7 v8
  obtain ⟨⟨a1, a2, a3, a4⟩, ⟨a5, a6, a7, a8⟩, a9, a10, a11, a12⟩ := bx3.net
  obtain ⟨r1, r2, r3, r4, r5⟩ := bx3.rest
  obtain ⟨v1, v2, ⟨v3, v4, v5, v6⟩, v7, v8⟩ := be3.c
  rw [HK.out] at v1
  rw [HN.out] at v7
  rw [← HSST.out] at a9
  rw [HL0.out] at r4
  go_upto_region 18 with (at_make; refine mk_int rfl _ _ rfl (w.heap.size + 3) n rfl rfl rfl (by omega) hs3 ?_; intro w4 ho4 hb4; have bx4 := bx3.keep hb4; have be4 := be3.keep hb4; have bz4 := bz3.keep hb4; have hw4 := below_then hw3 hb4; have hs4 := hb4.size; clear r1 r2 r3 r4 r5 a1 a2 a3 a4 a5 a6 a7 a8 a9 a10 a11 a12 v1 v2 v3 v4 v5 v6 v7 v8; obtain ⟨⟨a1, a2, a3, a4⟩, ⟨a5, a6, a7, a8⟩, a9, a10, a11, a12⟩ := bx4.net; obtain ⟨r1, r2, r3, r4, r5⟩ := bx4.rest; obtain ⟨v1, v2, ⟨v3, v4, v5, v6⟩, v7, v8⟩ := be4.c; rw [HK.out] at v1; rw [HN.out] at v7; rw [← HSST.out] at a9; rw [HL0.out] at r4)
  clear bx3 be3 bz3 hw3 hb4
  by_cases hqn : n = u.d.s.length
  · subst hqn
    go_upto_region 20 with ((with_reducible show wpList _ _ _ (Oper.mk _ (.call ⟨.builtin .copy, _, _⟩) _ _ _ _ :: _) _ _); refine copy_full rfl _ _ rfl rfl rfl ho4 List.length_replicate (HU.out.s.grow hw4) rfl ?_; intro W5 ho5 pg5)
    have bx5 := bx4.away pg5 (by omega)
    have be5 := be4.away pg5 (by omega)
    have bz5 := bz4.away pg5 (by omega)
    have hw5 := put_facts hw4 (by omega) pg5
    have hs5 := pg5.size
    have HS : Hid (u.d.s = if e.net.st = u.d.net.st then u.d.s else List.replicate e.net.st.toNat 0) := by show _ = _; rw [if_pos (by rw [HN.out, HSST.out])]
    have hlS : u.d.s.length = u.d.s.length := rfl
    clear r1 r2 r3 r4 r5 a1 a2 a3 a4 a5 a6 a7 a8 a9 a10 a11 a12 v1 v2 v3 v4 v5 v6 v7 v8 bx4 be4 bz4 hw4 ho4
    obtain ⟨⟨a1, a2, a3, a4⟩, ⟨a5, a6, a7, a8⟩, a9, a10, a11, a12⟩ := bx5.net
    obtain ⟨r1, r2, r3, r4, r5⟩ := bx5.rest
    obtain ⟨v1, v2, ⟨v3, v4, v5, v6⟩, v7, v8⟩ := be5.c
    rw [HK.out] at v1
    try rw [HN.out] at v7
    rw [← HSST.out] at a9
    rw [HL0.out] at r4
    by_cases hfd : 0 < e.fade
    · have hfd' : decide (0 < e.fade) = true := decide_eq_true hfd
      go_upto_region 21 with fail
      obtain ⟨U0, hU0⟩ : ∃ U0 : StrA, U0 = { u with d := { u.d with ev := u.d.ev + 1 } } := ⟨_, rfl⟩
      obtain ⟨fin, hfin⟩ : ∃ fin, fin = (U0.laid e.fade).cells := ⟨_, rfl⟩
      rw [← hU0] at bx5
      have HU0 := Lib.hid hU0
      have HFIN := Lib.hid hfin
      have BX5 := Lib.hid bx5
      have BE5 := Lib.hid be5
      have BZ5 := Lib.hid bz5
      have HW5 := Lib.hid hw5
      have HO5 := Lib.hid ho5
      have hlt := bx5.1
      clear hfin hU0 bx5 be5 bz5 hw5 ho5 r1 r2 r3 r4 r5 a1 a2 a3 a4 a5 a6 a7 a8 a9 a10 a11 a12 v1 v2 v3 v4 v5 v6 v7 v8
      refine wp_region_grow 16 (C21 w.heap.size U0.cells fin W5) (G21 w.heap.size fin) (F21 w.heap.size (.agg u.netL.toArray) (.slice u.SA u.d.s.length u.sc) e.fade fin) (by kernel_rfl) (by kernel_rfl) ⟨grown_via (drew_below W5) (grown_refl _ _), _, BX5.out.box.keep (drew_below W5), rfl, fun _ => .inl rfl⟩ (fun a b h1 h2 => ⟨h1.step h2, fun i _ v => F21_keep h2 i v⟩) ?_ ?_
      · refine ⟨?_, ?_, ?_, ?_, ?_, ?_, ?_, ?_, ?_, ?_, ?_, ?_, ?_, ?_, ?_, ?_, trivial⟩
        all_goals
          intro vs w2 hp hF
          have H0 := Lib.hid hp
          obtain ⟨hgr, vz, hb, hl, hv⟩ := hp
          have e24 : w2.cell? ⟨w.heap.size, 24, none⟩ = some (.slice u.SA u.d.s.length u.sc) := by
            rw [hb.2.1 24]
            rcases hv 24 with e | e
            · rw [e, HU0.out]; rfl
            · rw [e, HFIN.out, HU0.out]; rfl
          have v8 := (BE5.out.away hgr (by omega)).c.2.2.2.2
          obtain ⟨x25, e25⟩ : ∃ x, w2.cell? ⟨w.heap.size, 25, none⟩ = some x := ⟨vz[25]'(by omega), by rw [hb.2.1 25, List.getElem?_eq_getElem (by omega)]⟩
          obtain ⟨x26, e26⟩ : ∃ x, w2.cell? ⟨w.heap.size, 26, none⟩ = some x := ⟨vz[26]'(by omega), by rw [hb.2.1 26, List.getElem?_eq_getElem (by omega)]⟩
          obtain ⟨x27, e27⟩ : ∃ x, w2.cell? ⟨w.heap.size, 27, none⟩ = some x := ⟨vz[27]'(by omega), by rw [hb.2.1 27, List.getElem?_eq_getElem (by omega)]⟩
          have hfr := hb.2.2
          have HB := Lib.hid hb
          have HL := Lib.hid hl
          have HV := Lib.hid hv
          clear hb hl hv hgr
          simp [depsB, Region.binds, F21] at hF
          simp [stL, depsB, Region.binds, Act.put, hF]
        all_goals try (go_wp2_with fail; exact ⟨rfl, H0.out.stay⟩)
        · obtain ⟨d, h1, h2⟩ := row_net
          refine wp_ld rfl _ _ rfl w.heap.size 0 rfl HB.out u.netL (fun j v hj => ?_) d h1 h2 size_net ?_
          · have hj12 : j < 12 := (List.getElem?_eq_some_iff.1 hj).1
            have hn := net_in U0 j v (by rw [HU0.out]; exact hj)
            rw [Nat.zero_add] at hn ⊢
            rcases HV.out j with e | e
            · rw [e]; exact hn
            · rw [e, HFIN.out, ← laid_same _ _ j (.inl hj12)]; exact hn
          · go_wp2_with fail
            exact ⟨rfl, H0.out.stay⟩
        · refine wp_st rfl _ _ _ rfl w.heap.size 12 u.netL rfl rfl size_net (lst_all _ _ _ _ _) HB.out (by rw [HL.out]; show 12 + 12 ≤ 29; omega) rfl ?_
          intro W1 hB hg
          go_wp2_with fail
          obtain ⟨q1, q2⟩ := C21.many (org := fin) (W := W5) (cs := u.netL) (fin := fin) HB.out HL.out (by show 12 + 12 ≤ 29; omega) (fun j hj => by rw [HFIN.out, HU0.out]; exact laid_net u e.fade (u.d.ev + 1) j hj) hB hg
          exact ⟨⟨undef, q1⟩, q2⟩
        · go_wp2_with fail
          obtain ⟨q1, q2⟩ := H0.out.one (k := 25) (x := .slice u.SA u.d.s.length u.sc) (by decide) (by rw [HFIN.out, HU0.out]; rfl)
          exact ⟨⟨undef, q1⟩, q2⟩
        · go_wp2_with fail
          obtain ⟨q1, q2⟩ := H0.out.one (k := 26) (x := .int .i64 e.fade) (by decide) (by rw [HFIN.out]; rfl)
          exact ⟨⟨undef, q1⟩, q2⟩
        · go_wp2_with fail
          obtain ⟨q1, q2⟩ := H0.out.one (k := 27) (x := .int .i64 e.fade) (by decide) (by rw [HFIN.out]; rfl)
          exact ⟨⟨undef, q1⟩, q2⟩
      intro vs W8 hC hF
      have hbox := hC.done (hF 9 (by decide)) (hF 11 (by decide)) (hF 13 (by decide)) (hF 15 (by decide)) (fun k hk => by rw [HFIN.out]; exact laid_same U0 e.fade k hk)
      rw [HFIN.out, HU0.out] at hbox
      have bx8 : StrBox W8 w.heap.size (StrA.laid { u with d := { u.d with ev := u.d.ev + 1 } } e.fade) := hbox
      have gr := hC.1
      have be8 := BE5.out.away gr (by omega)
      have bz8 := BZ5.out.away gr (by omega)
      have hw8 := put_facts HW5.out (Nat.le_refl _) gr
      have ho8 := HO5.out.kept_at gr (by omega)
      simp [stL, Act.put]
      generalize vs 0 = x0
      generalize vs 1 = x1
      generalize vs 2 = x2
      generalize vs 3 = x3
      generalize vs 4 = x4
      generalize vs 5 = x5
      generalize vs 6 = x6
      generalize vs 7 = x7
      generalize vs 8 = x8
      generalize vs 10 = x10
      generalize vs 12 = x12
      generalize vs 14 = x14
      clear hF hC hbox gr
      unfold StrA.laid at bx8
      obtain ⟨r1, r2, r3, r4, r5⟩ := bx8.rest
      obtain ⟨⟨a1, a2, a3, a4⟩, ⟨a5, a6, a7, a8⟩, a9, a10, a11, a12⟩ := bx8.net
      obtain ⟨v1, v2, ⟨v3, v4, v5, v6⟩, v7, v8⟩ := be8.c
      go_upto_region 23 with (first
        | ((with_reducible show wpList _ _ _ (Oper.mk _ (.load _ _) _ _ _ _ :: _) _ _); refine ld_evnet be8 rfl _ rfl rfl ?_)
        | ((with_reducible show wpList _ _ _ (Oper.mk _ (.store _ _ _) _ _ _ _ :: _) _ _); refine st_net bx8 rfl _ _ rfl rfl rfl ?_; intro W6 bx6 pg6; have bz6 := bz8.away pg6 (by omega); have hw6 := put_facts hw8 (Nat.le_refl _) pg6; have ho6 := ho8.kept_at pg6 (by omega); clear r1 r2 r3 r4 r5; obtain ⟨r1, r2, r3, r4, r5⟩ := bx6.rest; have hfr6 := bx6.2.2; have hl6 := bx6.1))
      obtain ⟨bx7, pg7⟩ := bx6.setS (some ⟨W3.heap.size, 0, none⟩) u.d.s u.d.s.length u.d.s.length (by first | exact List.length_replicate | rfl)
      generalize (W6.setCell ⟨w.heap.size, 24, none⟩ (.slice (some ⟨W3.heap.size, 0, none⟩) u.d.s.length u.d.s.length)) = W7 at bx7 pg7 ⊢
      have bz7 := bz6.away pg7 (by omega)
      have hw7 := put_facts hw6 (Nat.le_refl _) pg7
      have ho7 := ho6.kept_at pg7 (by omega)
      clear r1 r2 r3 r4 r5 a1 a2 a3 a4 a5 a6 a7 a8 a9 a10 a11 a12 v1 v2 v3 v4 v5 v6 v7 v8
      obtain ⟨U7, hU7, bx7⟩ := bx7.veil
      have HU7 := Lib.hid hU7
      clear hU7
      go_wp2_with (first
        | ((with_reducible show wpList _ _ _ (Oper.mk _ (.load _ _) _ _ _ _ :: _) _ _); refine ld_str bx7 rfl _ rfl rfl ?_)
        | ((with_reducible show wpList _ _ _ (Oper.mk _ (.store _ _ _) _ _ _ _ :: _) _ _); refine st_str bz7 rfl _ _ rfl rfl rfl ?_; intro W9 bz9 pg9; have hw9 := put_facts hw7 (by omega) pg9; have ho9 := ho7.kept_at pg9 (by omega)))
      have hres := res_str bz9
      refine bodyPost_ret (results_ctt rfl _ _ _ rfl hres) rfl ?_
      have hU7 := HU7.out
      refine ⟨U7, none, 0, rfl, ?_, ?_, ?_, IntsF.nil, hw9⟩
      rotate_left
      · rw [hU7]
        exact fun w'' hg hu2 he2 => ⟨he2.net, hu2.net, ((IntsF.own ho9).chg hg (by omega)), hu2.s, (show List.length u.d.s ≤ 9223372036854775807 from (by omega)), (show u.d.s.length ≤ 9223372036854775807 by omega)⟩
      · rw [hU7]
        exact ⟨HE.out.net.grow hw9, HU.out.net.grow hw9, ho9.ints, HU.out.s.grow hw9, (show List.length u.d.s ≤ 9223372036854775807 from (by omega)), (show u.d.s.length ≤ 9223372036854775807 by omega)⟩
      · rw [hU7]
        unfold StrD.chOk
        have h0 : 0 < e.fade := hfd
        rw [if_pos h0, if_pos h0, ← HS.out]
    · have hfz : e.fade = 0 := by omega
      have hfd' : decide (0 < e.fade) = false := decide_eq_false hfd
      have hfr := bx5.2.2
      have hl := bx5.1
      go_upto_region 23 with (first
        | ((with_reducible show wpList _ _ _ (Oper.mk _ (.load _ _) _ _ _ _ :: _) _ _); refine ld_evnet be5 rfl _ rfl rfl ?_)
        | ((with_reducible show wpList _ _ _ (Oper.mk _ (.store _ _ _) _ _ _ _ :: _) _ _); refine st_net bx5 rfl _ _ rfl rfl rfl ?_; intro W6 bx6 pg6; have bz6 := bz5.away pg6 (by omega); have hw6 := put_facts hw5 (Nat.le_refl _) pg6; have ho6 := ho5.kept_at pg6 (by omega); clear r1 r2 r3 r4 r5; obtain ⟨r1, r2, r3, r4, r5⟩ := bx6.rest; have hfr6 := bx6.2.2; have hl6 := bx6.1))
      obtain ⟨bx7, pg7⟩ := bx6.setS (some ⟨W3.heap.size, 0, none⟩) u.d.s u.d.s.length u.d.s.length (by first | exact List.length_replicate | rfl)
      generalize (W6.setCell ⟨w.heap.size, 24, none⟩ (.slice (some ⟨W3.heap.size, 0, none⟩) u.d.s.length u.d.s.length)) = W7 at bx7 pg7 ⊢
      have bz7 := bz6.away pg7 (by omega)
      have hw7 := put_facts hw6 (Nat.le_refl _) pg7
      have ho7 := ho6.kept_at pg7 (by omega)
      clear r1 r2 r3 r4 r5 a1 a2 a3 a4 a5 a6 a7 a8 a9 a10 a11 a12 v1 v2 v3 v4 v5 v6 v7 v8
      obtain ⟨U7, hU7, bx7⟩ := bx7.veil
      have HU7 := Lib.hid hU7
      clear hU7
      go_wp2_with (first
        | ((with_reducible show wpList _ _ _ (Oper.mk _ (.load _ _) _ _ _ _ :: _) _ _); refine ld_str bx7 rfl _ rfl rfl ?_)
        | ((with_reducible show wpList _ _ _ (Oper.mk _ (.store _ _ _) _ _ _ _ :: _) _ _); refine st_str bz7 rfl _ _ rfl rfl rfl ?_; intro W9 bz9 pg9; have hw9 := put_facts hw7 (by omega) pg9; have ho9 := ho7.kept_at pg9 (by omega)))
      have hres := res_str bz9
      refine bodyPost_ret (results_ctt rfl _ _ _ rfl hres) rfl ?_
      obtain ⟨z1, z2, z3⟩ := HGZ.out
      have hU7 := HU7.out
      refine ⟨U7, none, 0, rfl, ?_, ?_, ?_, IntsF.nil, hw9⟩
      rotate_left
      · rw [hU7]
        exact fun w'' hg hu2 he2 => ⟨he2.net, (show NetAt w'' u.d.old _ _ by rw [z2]; exact NetAt.zero), ((IntsF.own ho9).chg hg (by omega)), (show Ints w'' _ u.d.f by rw [z3]; exact Ints.nil), (show List.length u.d.s ≤ 9223372036854775807 from (by omega)), (show u.d.f.length ≤ 9223372036854775807 by rw [z3]; exact Nat.zero_le _)⟩
      · rw [hU7]
        exact ⟨HE.out.net.grow hw9, (show NetAt W9 u.d.old _ _ by rw [z2]; exact NetAt.zero), ho9.ints, (show Ints W9 _ u.d.f by rw [z3]; exact Ints.nil), (show List.length u.d.s ≤ 9223372036854775807 from (by omega)), (show u.d.f.length ≤ 9223372036854775807 by rw [z3]; exact Nat.zero_le _)⟩
      · rw [hU7]
        unfold StrD.chOk
        have h0 : ¬ 0 < e.fade := by omega
        rw [if_neg h0, if_neg h0, ← HS.out, hfz]
        simp only [z1, z2, z3, HL0.out]
  · have hqn' : ¬ (n : Int) = (u.d.s.length : Int) := by omega
    go_upto_region 20 with fail
    obtain ⟨W5, hW5⟩ : ∃ W5, W5 = w4 := ⟨_, rfl⟩
    rw [← hW5] at bx4 be4 bz4 hw4 ho4 hs4 ⊢
    clear hW5
    have bx5 := bx4
    have be5 := be4
    have bz5 := bz4
    have hw5 := hw4
    have ho5 := ho4
    have hs5 := Nat.le_refl W5.heap.size
    have HS : Hid (List.replicate n 0 = if e.net.st = u.d.net.st then u.d.s else List.replicate e.net.st.toNat 0) := by show _ = _; rw [if_neg (by rw [HN.out, ← HSST.out]; exact hqn'), HN.out]; simp
    have hlS : (List.replicate n (0 : Int)).length = n := List.length_replicate
    clear hqn'
    clear r1 r2 r3 r4 r5 a1 a2 a3 a4 a5 a6 a7 a8 a9 a10 a11 a12 v1 v2 v3 v4 v5 v6 v7 v8 bx4 be4 bz4 hw4 ho4
    obtain ⟨⟨a1, a2, a3, a4⟩, ⟨a5, a6, a7, a8⟩, a9, a10, a11, a12⟩ := bx5.net
    obtain ⟨r1, r2, r3, r4, r5⟩ := bx5.rest
    obtain ⟨v1, v2, ⟨v3, v4, v5, v6⟩, v7, v8⟩ := be5.c
    rw [HK.out] at v1
    try rw [HN.out] at v7
    rw [← HSST.out] at a9
    rw [HL0.out] at r4
    by_cases hfd : 0 < e.fade
    · have hfd' : decide (0 < e.fade) = true := decide_eq_true hfd
      go_upto_region 21 with fail
      obtain ⟨U0, hU0⟩ : ∃ U0 : StrA, U0 = { u with d := { u.d with ev := u.d.ev + 1 } } := ⟨_, rfl⟩
      obtain ⟨fin, hfin⟩ : ∃ fin, fin = (U0.laid e.fade).cells := ⟨_, rfl⟩
      rw [← hU0] at bx5
      have HU0 := Lib.hid hU0
      have HFIN := Lib.hid hfin
      have BX5 := Lib.hid bx5
      have BE5 := Lib.hid be5
      have BZ5 := Lib.hid bz5
      have HW5 := Lib.hid hw5
      have HO5 := Lib.hid ho5
      have hlt := bx5.1
      clear hfin hU0 bx5 be5 bz5 hw5 ho5 r1 r2 r3 r4 r5 a1 a2 a3 a4 a5 a6 a7 a8 a9 a10 a11 a12 v1 v2 v3 v4 v5 v6 v7 v8
      refine wp_region_grow 16 (C21 w.heap.size U0.cells fin W5) (G21 w.heap.size fin) (F21 w.heap.size (.agg u.netL.toArray) (.slice u.SA u.d.s.length u.sc) e.fade fin) (by kernel_rfl) (by kernel_rfl) ⟨grown_via (drew_below W5) (grown_refl _ _), _, BX5.out.box.keep (drew_below W5), rfl, fun _ => .inl rfl⟩ (fun a b h1 h2 => ⟨h1.step h2, fun i _ v => F21_keep h2 i v⟩) ?_ ?_
      · refine ⟨?_, ?_, ?_, ?_, ?_, ?_, ?_, ?_, ?_, ?_, ?_, ?_, ?_, ?_, ?_, ?_, trivial⟩
        all_goals
          intro vs w2 hp hF
          have H0 := Lib.hid hp
          obtain ⟨hgr, vz, hb, hl, hv⟩ := hp
          have e24 : w2.cell? ⟨w.heap.size, 24, none⟩ = some (.slice u.SA u.d.s.length u.sc) := by
            rw [hb.2.1 24]
            rcases hv 24 with e | e
            · rw [e, HU0.out]; rfl
            · rw [e, HFIN.out, HU0.out]; rfl
          have v8 := (BE5.out.away hgr (by omega)).c.2.2.2.2
          obtain ⟨x25, e25⟩ : ∃ x, w2.cell? ⟨w.heap.size, 25, none⟩ = some x := ⟨vz[25]'(by omega), by rw [hb.2.1 25, List.getElem?_eq_getElem (by omega)]⟩
          obtain ⟨x26, e26⟩ : ∃ x, w2.cell? ⟨w.heap.size, 26, none⟩ = some x := ⟨vz[26]'(by omega), by rw [hb.2.1 26, List.getElem?_eq_getElem (by omega)]⟩
          obtain ⟨x27, e27⟩ : ∃ x, w2.cell? ⟨w.heap.size, 27, none⟩ = some x := ⟨vz[27]'(by omega), by rw [hb.2.1 27, List.getElem?_eq_getElem (by omega)]⟩
          have hfr := hb.2.2
          have HB := Lib.hid hb
          have HL := Lib.hid hl
          have HV := Lib.hid hv
          clear hb hl hv hgr
          simp [depsB, Region.binds, F21] at hF
          simp [stL, depsB, Region.binds, Act.put, hF]
        all_goals try (go_wp2_with fail; exact ⟨rfl, H0.out.stay⟩)
        · obtain ⟨d, h1, h2⟩ := row_net
          refine wp_ld rfl _ _ rfl w.heap.size 0 rfl HB.out u.netL (fun j v hj => ?_) d h1 h2 size_net ?_
          · have hj12 : j < 12 := (List.getElem?_eq_some_iff.1 hj).1
            have hn := net_in U0 j v (by rw [HU0.out]; exact hj)
            rw [Nat.zero_add] at hn ⊢
            rcases HV.out j with e | e
            · rw [e]; exact hn
            · rw [e, HFIN.out, ← laid_same _ _ j (.inl hj12)]; exact hn
          · go_wp2_with fail
            exact ⟨rfl, H0.out.stay⟩
        · refine wp_st rfl _ _ _ rfl w.heap.size 12 u.netL rfl rfl size_net (lst_all _ _ _ _ _) HB.out (by rw [HL.out]; show 12 + 12 ≤ 29; omega) rfl ?_
          intro W1 hB hg
          go_wp2_with fail
          obtain ⟨q1, q2⟩ := C21.many (org := fin) (W := W5) (cs := u.netL) (fin := fin) HB.out HL.out (by show 12 + 12 ≤ 29; omega) (fun j hj => by rw [HFIN.out, HU0.out]; exact laid_net u e.fade (u.d.ev + 1) j hj) hB hg
          exact ⟨⟨undef, q1⟩, q2⟩
        · go_wp2_with fail
          obtain ⟨q1, q2⟩ := H0.out.one (k := 25) (x := .slice u.SA u.d.s.length u.sc) (by decide) (by rw [HFIN.out, HU0.out]; rfl)
          exact ⟨⟨undef, q1⟩, q2⟩
        · go_wp2_with fail
          obtain ⟨q1, q2⟩ := H0.out.one (k := 26) (x := .int .i64 e.fade) (by decide) (by rw [HFIN.out]; rfl)
          exact ⟨⟨undef, q1⟩, q2⟩
        · go_wp2_with fail
          obtain ⟨q1, q2⟩ := H0.out.one (k := 27) (x := .int .i64 e.fade) (by decide) (by rw [HFIN.out]; rfl)
          exact ⟨⟨undef, q1⟩, q2⟩
      intro vs W8 hC hF
      have hbox := hC.done (hF 9 (by decide)) (hF 11 (by decide)) (hF 13 (by decide)) (hF 15 (by decide)) (fun k hk => by rw [HFIN.out]; exact laid_same U0 e.fade k hk)
      rw [HFIN.out, HU0.out] at hbox
      have bx8 : StrBox W8 w.heap.size (StrA.laid { u with d := { u.d with ev := u.d.ev + 1 } } e.fade) := hbox
      have gr := hC.1
      have be8 := BE5.out.away gr (by omega)
      have bz8 := BZ5.out.away gr (by omega)
      have hw8 := put_facts HW5.out (Nat.le_refl _) gr
      have ho8 := HO5.out.kept_at gr (by omega)
      simp [stL, Act.put]
      generalize vs 0 = x0
      generalize vs 1 = x1
      generalize vs 2 = x2
      generalize vs 3 = x3
      generalize vs 4 = x4
      generalize vs 5 = x5
      generalize vs 6 = x6
      generalize vs 7 = x7
      generalize vs 8 = x8
      generalize vs 10 = x10
      generalize vs 12 = x12
      generalize vs 14 = x14
      clear hF hC hbox gr
      unfold StrA.laid at bx8
      obtain ⟨r1, r2, r3, r4, r5⟩ := bx8.rest
      obtain ⟨⟨a1, a2, a3, a4⟩, ⟨a5, a6, a7, a8⟩, a9, a10, a11, a12⟩ := bx8.net
      obtain ⟨v1, v2, ⟨v3, v4, v5, v6⟩, v7, v8⟩ := be8.c
      go_upto_region 23 with (first
        | ((with_reducible show wpList _ _ _ (Oper.mk _ (.load _ _) _ _ _ _ :: _) _ _); refine ld_evnet be8 rfl _ rfl rfl ?_)
        | ((with_reducible show wpList _ _ _ (Oper.mk _ (.store _ _ _) _ _ _ _ :: _) _ _); refine st_net bx8 rfl _ _ rfl rfl rfl ?_; intro W6 bx6 pg6; have bz6 := bz8.away pg6 (by omega); have hw6 := put_facts hw8 (Nat.le_refl _) pg6; have ho6 := ho8.kept_at pg6 (by omega); clear r1 r2 r3 r4 r5; obtain ⟨r1, r2, r3, r4, r5⟩ := bx6.rest; have hfr6 := bx6.2.2; have hl6 := bx6.1))
      obtain ⟨bx7, pg7⟩ := bx6.setS (some ⟨W3.heap.size, 0, none⟩) (List.replicate n 0) n n (by first | exact List.length_replicate | rfl)
      generalize (W6.setCell ⟨w.heap.size, 24, none⟩ (.slice (some ⟨W3.heap.size, 0, none⟩) n n)) = W7 at bx7 pg7 ⊢
      have bz7 := bz6.away pg7 (by omega)
      have hw7 := put_facts hw6 (Nat.le_refl _) pg7
      have ho7 := ho6.kept_at pg7 (by omega)
      clear r1 r2 r3 r4 r5 a1 a2 a3 a4 a5 a6 a7 a8 a9 a10 a11 a12 v1 v2 v3 v4 v5 v6 v7 v8
      obtain ⟨U7, hU7, bx7⟩ := bx7.veil
      have HU7 := Lib.hid hU7
      clear hU7
      go_wp2_with (first
        | ((with_reducible show wpList _ _ _ (Oper.mk _ (.load _ _) _ _ _ _ :: _) _ _); refine ld_str bx7 rfl _ rfl rfl ?_)
        | ((with_reducible show wpList _ _ _ (Oper.mk _ (.store _ _ _) _ _ _ _ :: _) _ _); refine st_str bz7 rfl _ _ rfl rfl rfl ?_; intro W9 bz9 pg9; have hw9 := put_facts hw7 (by omega) pg9; have ho9 := ho7.kept_at pg9 (by omega)))
      have hres := res_str bz9
      refine bodyPost_ret (results_ctt rfl _ _ _ rfl hres) rfl ?_
      have hU7 := HU7.out
      refine ⟨U7, none, 0, rfl, ?_, ?_, ?_, IntsF.nil, hw9⟩
      rotate_left
      · rw [hU7]
        exact fun w'' hg hu2 he2 => ⟨he2.net, hu2.net, ((IntsF.own ho9).chg hg (by omega)), hu2.s, (show List.length (List.replicate n 0) ≤ 9223372036854775807 from (by rw [List.length_replicate]; omega)), (show u.d.s.length ≤ 9223372036854775807 by omega)⟩
      · rw [hU7]
        exact ⟨HE.out.net.grow hw9, HU.out.net.grow hw9, ho9.ints, HU.out.s.grow hw9, (show List.length (List.replicate n 0) ≤ 9223372036854775807 from (by rw [List.length_replicate]; omega)), (show u.d.s.length ≤ 9223372036854775807 by omega)⟩
      · rw [hU7]
        unfold StrD.chOk
        have h0 : 0 < e.fade := hfd
        rw [if_pos h0, if_pos h0, ← HS.out]
    · have hfz : e.fade = 0 := by omega
      have hfd' : decide (0 < e.fade) = false := decide_eq_false hfd
      have hfr := bx5.2.2
      have hl := bx5.1
      go_upto_region 23 with (first
        | ((with_reducible show wpList _ _ _ (Oper.mk _ (.load _ _) _ _ _ _ :: _) _ _); refine ld_evnet be5 rfl _ rfl rfl ?_)
        | ((with_reducible show wpList _ _ _ (Oper.mk _ (.store _ _ _) _ _ _ _ :: _) _ _); refine st_net bx5 rfl _ _ rfl rfl rfl ?_; intro W6 bx6 pg6; have bz6 := bz5.away pg6 (by omega); have hw6 := put_facts hw5 (Nat.le_refl _) pg6; have ho6 := ho5.kept_at pg6 (by omega); clear r1 r2 r3 r4 r5; obtain ⟨r1, r2, r3, r4, r5⟩ := bx6.rest; have hfr6 := bx6.2.2; have hl6 := bx6.1))
      obtain ⟨bx7, pg7⟩ := bx6.setS (some ⟨W3.heap.size, 0, none⟩) (List.replicate n 0) n n (by first | exact List.length_replicate | rfl)
      generalize (W6.setCell ⟨w.heap.size, 24, none⟩ (.slice (some ⟨W3.heap.size, 0, none⟩) n n)) = W7 at bx7 pg7 ⊢
      have bz7 := bz6.away pg7 (by omega)
      have hw7 := put_facts hw6 (Nat.le_refl _) pg7
      have ho7 := ho6.kept_at pg7 (by omega)
      clear r1 r2 r3 r4 r5 a1 a2 a3 a4 a5 a6 a7 a8 a9 a10 a11 a12 v1 v2 v3 v4 v5 v6 v7 v8
      obtain ⟨U7, hU7, bx7⟩ := bx7.veil
      have HU7 := Lib.hid hU7
      clear hU7
      go_wp2_with (first
        | ((with_reducible show wpList _ _ _ (Oper.mk _ (.load _ _) _ _ _ _ :: _) _ _); refine ld_str bx7 rfl _ rfl rfl ?_)
        | ((with_reducible show wpList _ _ _ (Oper.mk _ (.store _ _ _) _ _ _ _ :: _) _ _); refine st_str bz7 rfl _ _ rfl rfl rfl ?_; intro W9 bz9 pg9; have hw9 := put_facts hw7 (by omega) pg9; have ho9 := ho7.kept_at pg9 (by omega)))
      have hres := res_str bz9
      refine bodyPost_ret (results_ctt rfl _ _ _ rfl hres) rfl ?_
      obtain ⟨z1, z2, z3⟩ := HGZ.out
      have hU7 := HU7.out
      refine ⟨U7, none, 0, rfl, ?_, ?_, ?_, IntsF.nil, hw9⟩
      rotate_left
      · rw [hU7]
        exact fun w'' hg hu2 he2 => ⟨he2.net, (show NetAt w'' u.d.old _ _ by rw [z2]; exact NetAt.zero), ((IntsF.own ho9).chg hg (by omega)), (show Ints w'' _ u.d.f by rw [z3]; exact Ints.nil), (show List.length (List.replicate n 0) ≤ 9223372036854775807 from (by rw [List.length_replicate]; omega)), (show u.d.f.length ≤ 9223372036854775807 by rw [z3]; exact Nat.zero_le _)⟩
      · rw [hU7]
        exact ⟨HE.out.net.grow hw9, (show NetAt W9 u.d.old _ _ by rw [z2]; exact NetAt.zero), ho9.ints, (show Ints W9 _ u.d.f by rw [z3]; exact Ints.nil), (show List.length (List.replicate n 0) ≤ 9223372036854775807 from (by rw [List.length_replicate]; omega)), (show u.d.f.length ≤ 9223372036854775807 by rw [z3]; exact Nat.zero_le _)⟩
      · rw [hU7]
        unfold StrD.chOk
        have h0 : ¬ 0 < e.fade := by omega
        rw [if_neg h0, if_neg h0, ← HS.out, hfz]
        simp only [z1, z2, z3, HL0.out]
end Go.Proofs.Ytgabfdappeakiaa
