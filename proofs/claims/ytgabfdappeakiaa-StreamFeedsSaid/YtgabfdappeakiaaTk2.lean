/- The errors of a change in Feed of the reference of layer 42. -/
import Derived.Test.YtgabfdappeakiaaPz
set_option linter.unusedVariables false
set_option linter.unusedSimpArgs false
namespace Go.Proofs.Ytgabfdappeakiaa
open Go.RowKit

set_option maxRecDepth 100000 in
set_option maxHeartbeats 8000000 in
theorem r42_Feed_no (u : StrA) (e : EvA) (w : World) (hu : StrAt w u) (he : EvAt w e) (hne : u.d.feedE e ≠ 0) : Calls Try.prog 15 #[u.v, e.v] w (RetFeedR w (u.d.feedD e) (u.d.feedO e) (u.d.feedE e)) := by
  by_cases hcase : ¬ u.d.Good ∨ e.kind ≠ 2
  · exact r42_Feed_no1 u e w hu he hne hcase
  obtain ⟨hg, hk2⟩ := not_or.1 hcase
  have hg := Classical.not_not.1 hg
  have hk2 := Classical.not_not.1 hk2
  have hk1 : ¬ e.kind = 1 := by omega
  have CV : Hid (∀ w1, Below w.heap.size w w1 → Calls Try.prog 30 #[u.v] w1 fun e1 w' => e1 = .returned (.bool true) ∧ Below w1.heap.size w1 w') := fun w1 hb => by
    have := r42_Valid u w1 (hu.grow hb)
    rw [decide_eq_true hg] at this; exact this
  have HEE : Hid (u.d.feedE e = if e.kind = 1 then u.d.sampE e.x else if e.kind = 2 then u.d.chE e else 1) := by show _ = _; unfold StrD.feedE; rw [if_pos hg]
  clear hcase
  have HK := Lib.hid hk2
  rw [HEE.out, if_neg hk1, if_pos hk2] at hne
  have HEE2 : Hid (u.d.feedE e = u.d.chE e) := by show _ = _; rw [HEE.out, if_neg hk1, if_pos hk2]
  obtain ⟨vb, hvb⟩ : ∃ b, e.net.ok = b := ⟨_, rfl⟩
  have CN : Hid (∀ w1, Below w.heap.size w w1 → Calls Try.prog 27 #[.agg e.netL.toArray] w1 fun e1 w' => e1 = .returned (.bool vb) ∧ Below w1.heap.size w1 w') := fun w1 hb => by
    have h := he.net.grow hb
    have := r22_Valid e.net.d0 e.net.d1 e.net.d2 e.net.d3 e.net.c0 e.net.c1 e.net.c2 e.net.c3 e.net.st e.net.out e.NA e.XA e.nc e.xc e.net.ns e.net.nx w1 h.nodes h.next h.n1 h.n2 h.n3 h.st
    rw [show netB _ _ _ _ _ _ _ _ _ _ _ _ = vb from hvb] at this; exact this
  clear hu he hk1 hk2 hg
  unfold StrD.chE at hne
  rcases vb with _ | _
  · have HE : Hid (u.d.feedE e = 2) := by show _ = _; rw [HEE2.out]; unfold StrD.chE; rw [hvb]; rfl
    rw [HE.out]
    clear hne hvb
    go_enter Try.func15, Try.ntmps15
    go_upto_region 1 with fail
    obtain ⟨bx0, be0, bz0, hb0, hs0⟩ := entry3 w u e _ rfl
    change Code.wp _ _ _ _ (((w.alloc (.cells u.cells.toArray 39)).alloc (.cells e.cells.toArray 33)).alloc (.cells StrA.zero.cells.toArray 39))
    generalize (((w.alloc (.cells u.cells.toArray 39)).alloc (.cells e.cells.toArray 33)).alloc (.cells StrA.zero.cells.toArray 39)) = W0 at bx0 be0 bz0 hb0 hs0 ⊢
    have BX0 := Lib.hid bx0
    have BE0 := Lib.hid be0
    have BZ0 := Lib.hid bz0
    have HB0 := Lib.hid hb0
    clear bx0 be0 bz0 hb0
    go_upto_region 3 with (first
      | (refine ld_str BX0.out rfl _ rfl rfl ?_)
      | (go_at_call 30; (with_reducible refine (CV.out _ HB0.out).mono ?_); rintro e1 w1 ⟨rfl, hb1⟩; have bx1 := BX0.out.keep hb1; have be1 := BE0.out.keep hb1; have bz1 := BZ0.out.keep hb1; have hw1 := below_then HB0.out hb1; have hs1 := hb1.size; obtain ⟨⟨a1, a2, a3, a4⟩, ⟨a5, a6, a7, a8⟩, a9, a10, a11, a12⟩ := bx1.net; obtain ⟨r1, r2, r3, r4, r5⟩ := bx1.rest; obtain ⟨v1, v2, ⟨v3, v4, v5, v6⟩, v7, v8⟩ := be1.c; rw [HK.out] at v1))
    go_upto_region 9 with fail
    go_upto_region 10 with (first
      | (refine ld_evnetW be1 rfl _ rfl rfl ?_)
      | (go_at_call 27; (with_reducible refine (CN.out _ hw1).mono ?_); rintro e2 w2 ⟨rfl, hb2⟩; have bx2 := bx1.keep hb2; have be2 := be1.keep hb2; have bz2 := bz1.keep hb2; have hw2 := below_then hw1 hb2; have hs2 := hb2.size; obtain ⟨⟨a1, a2, a3, a4⟩, ⟨a5, a6, a7, a8⟩, a9, a10, a11, a12⟩ := bx2.net; obtain ⟨r1, r2, r3, r4, r5⟩ := bx2.rest; obtain ⟨v1, v2, ⟨v3, v4, v5, v6⟩, v7, v8⟩ := be2.c; rw [HK.out] at v1))
    go_wp2_with ((refine st_str bz2 (u' := StrA.zero) rfl _ _ rfl rfl rfl ?_; intro W9 bz9 pg9; have hw9 := put_facts hw2 (by omega) pg9))
    have hres := res_str bz9
    refine bodyPost_ret (results_ctt rfl _ _ _ rfl hres) rfl ?_
    unfold StrD.feedD StrD.feedO
    rw [HE.out]
    exact ⟨StrA.zero, none, 0, rfl, rfl, StrF.zero (b := 0) |>.at, Ints.nil, hw9⟩
  rw [hvb, if_pos rfl] at hne
  by_cases hs : e.net.same u.d.net = true ∧ 0 ≤ e.fade ∧ e.fade ≤ 4096
  · rw [if_pos hs] at hne
    have hl : 0 < u.d.left := by
      by_cases h : 0 < u.d.left
      · exact h
      · rw [if_neg h] at hne; exact absurd rfl hne
    have HE : Hid (u.d.feedE e = 10) := by show _ = _; rw [HEE2.out]; unfold StrD.chE; rw [hvb, if_pos rfl, if_pos hs, if_pos hl]
    obtain ⟨hs1, hf1, hf2⟩ := hs
    have I1 : Hid (∀ w1, Calls Try.prog 32 #[.int .i64 e.fade, .int .i64 0, .int .i64 4096] w1 fun e1 w' => e1 = .returned (.bool true) ∧ w1 = w') := fun w1 => by have := rf_In e.fade 0 4096 w1; rw [inB_iff.2 ⟨hf1, hf2⟩] at this; exact this
    unfold NetD.same at hs1
    obtain ⟨s0, s1, s2, s3⟩ := of_decide_eq_true hs1
    rw [HE.out]
    clear hne hvb hs1
    go_enter Try.func15, Try.ntmps15
    go_upto_region 1 with fail
    obtain ⟨bx0, be0, bz0, hb0, hs0⟩ := entry3 w u e _ rfl
    change Code.wp _ _ _ _ (((w.alloc (.cells u.cells.toArray 39)).alloc (.cells e.cells.toArray 33)).alloc (.cells StrA.zero.cells.toArray 39))
    generalize (((w.alloc (.cells u.cells.toArray 39)).alloc (.cells e.cells.toArray 33)).alloc (.cells StrA.zero.cells.toArray 39)) = W0 at bx0 be0 bz0 hb0 hs0 ⊢
    have BX0 := Lib.hid bx0
    have BE0 := Lib.hid be0
    have BZ0 := Lib.hid bz0
    have HB0 := Lib.hid hb0
    clear bx0 be0 bz0 hb0
    go_upto_region 3 with (first
      | (refine ld_str BX0.out rfl _ rfl rfl ?_)
      | (go_at_call 30; (with_reducible refine (CV.out _ HB0.out).mono ?_); rintro e1 w1 ⟨rfl, hb1⟩; have bx1 := BX0.out.keep hb1; have be1 := BE0.out.keep hb1; have bz1 := BZ0.out.keep hb1; have hw1 := below_then HB0.out hb1; have hs1 := hb1.size; obtain ⟨⟨a1, a2, a3, a4⟩, ⟨a5, a6, a7, a8⟩, a9, a10, a11, a12⟩ := bx1.net; obtain ⟨r1, r2, r3, r4, r5⟩ := bx1.rest; obtain ⟨v1, v2, ⟨v3, v4, v5, v6⟩, v7, v8⟩ := be1.c; rw [HK.out] at v1))
    go_upto_region 9 with fail
    go_upto_region 11 with (first
      | (refine ld_evnetW be1 rfl _ rfl rfl ?_)
      | (go_at_call 27; (with_reducible refine (CN.out _ hw1).mono ?_); rintro e2 w2 ⟨rfl, hb2⟩; have bx2 := bx1.keep hb2; have be2 := be1.keep hb2; have bz2 := bz1.keep hb2; have hw2 := below_then hw1 hb2; have hs2 := hb2.size; obtain ⟨⟨a1, a2, a3, a4⟩, ⟨a5, a6, a7, a8⟩, a9, a10, a11, a12⟩ := bx2.net; obtain ⟨r1, r2, r3, r4, r5⟩ := bx2.rest; obtain ⟨v1, v2, ⟨v3, v4, v5, v6⟩, v7, v8⟩ := be2.c; rw [HK.out] at v1))
    go_upto_region 13 with (first
      | (go_at_call 32; (with_reducible refine (I1.out _).mono ?_); rintro e3 w3 ⟨rfl, rfl⟩))
    go_upto_region 14 with fail
    go_wp2_with ((refine st_str bz2 (u' := StrA.zero) rfl _ _ rfl rfl rfl ?_; intro W9 bz9 pg9; have hw9 := put_facts hw2 (by omega) pg9))
    have hres := res_str bz9
    refine bodyPost_ret (results_ctt rfl _ _ _ rfl hres) rfl ?_
    unfold StrD.feedD StrD.feedO
    rw [HE.out]
    exact ⟨StrA.zero, none, 0, rfl, rfl, StrF.zero (b := 0) |>.at, Ints.nil, hw9⟩
  rw [if_neg hs] at hne
  have HE : Hid (u.d.feedE e = 1) := by show _ = _; rw [HEE2.out]; unfold StrD.chE; rw [hvb, if_pos rfl, if_neg hs]
  have hcase : (e.net.d0 ≠ u.d.net.d0 ∨ (e.net.d0 = u.d.net.d0 ∧ (e.net.d1 ≠ u.d.net.d1 ∨ (e.net.d1 = u.d.net.d1 ∧ (e.net.d2 ≠ u.d.net.d2 ∨ (e.net.d2 = u.d.net.d2 ∧ (e.net.d3 ≠ u.d.net.d3 ∨ (e.net.d3 = u.d.net.d3 ∧ (e.fade < 0 ∨ 4096 < e.fade))))))))) := by
    unfold NetD.same at hs
    rw [decide_eq_true_eq] at hs
    omega
  rw [HE.out]
  clear hne hvb hs
  rcases hcase with h0 | ⟨h0, h1 | ⟨h1, h2 | ⟨h2, h3 | ⟨h3, h4⟩⟩⟩⟩
  · go_enter Try.func15, Try.ntmps15
    go_upto_region 1 with fail
    obtain ⟨bx0, be0, bz0, hb0, hs0⟩ := entry3 w u e _ rfl
    change Code.wp _ _ _ _ (((w.alloc (.cells u.cells.toArray 39)).alloc (.cells e.cells.toArray 33)).alloc (.cells StrA.zero.cells.toArray 39))
    generalize (((w.alloc (.cells u.cells.toArray 39)).alloc (.cells e.cells.toArray 33)).alloc (.cells StrA.zero.cells.toArray 39)) = W0 at bx0 be0 bz0 hb0 hs0 ⊢
    have BX0 := Lib.hid bx0
    have BE0 := Lib.hid be0
    have BZ0 := Lib.hid bz0
    have HB0 := Lib.hid hb0
    clear bx0 be0 bz0 hb0
    go_upto_region 3 with (first
      | (refine ld_str BX0.out rfl _ rfl rfl ?_)
      | (go_at_call 30; (with_reducible refine (CV.out _ HB0.out).mono ?_); rintro e1 w1 ⟨rfl, hb1⟩; have bx1 := BX0.out.keep hb1; have be1 := BE0.out.keep hb1; have bz1 := BZ0.out.keep hb1; have hw1 := below_then HB0.out hb1; have hs1 := hb1.size; obtain ⟨⟨a1, a2, a3, a4⟩, ⟨a5, a6, a7, a8⟩, a9, a10, a11, a12⟩ := bx1.net; obtain ⟨r1, r2, r3, r4, r5⟩ := bx1.rest; obtain ⟨v1, v2, ⟨v3, v4, v5, v6⟩, v7, v8⟩ := be1.c; rw [HK.out] at v1))
    go_upto_region 9 with fail
    go_upto_region 11 with (first
      | (refine ld_evnetW be1 rfl _ rfl rfl ?_)
      | (go_at_call 27; (with_reducible refine (CN.out _ hw1).mono ?_); rintro e2 w2 ⟨rfl, hb2⟩; have bx2 := bx1.keep hb2; have be2 := be1.keep hb2; have bz2 := bz1.keep hb2; have hw2 := below_then hw1 hb2; have hs2 := hb2.size; obtain ⟨⟨a1, a2, a3, a4⟩, ⟨a5, a6, a7, a8⟩, a9, a10, a11, a12⟩ := bx2.net; obtain ⟨r1, r2, r3, r4, r5⟩ := bx2.rest; obtain ⟨v1, v2, ⟨v3, v4, v5, v6⟩, v7, v8⟩ := be2.c; rw [HK.out] at v1))
    go_upto_region 12 with fail
    go_wp2_with ((refine st_str bz2 (u' := StrA.zero) rfl _ _ rfl rfl rfl ?_; intro W9 bz9 pg9; have hw9 := put_facts hw2 (by omega) pg9))
    have hres := res_str bz9
    refine bodyPost_ret (results_ctt rfl _ _ _ rfl hres) rfl ?_
    unfold StrD.feedD StrD.feedO
    rw [HE.out]
    exact ⟨StrA.zero, none, 0, rfl, rfl, StrF.zero (b := 0) |>.at, Ints.nil, hw9⟩
  · go_enter Try.func15, Try.ntmps15
    go_upto_region 1 with fail
    obtain ⟨bx0, be0, bz0, hb0, hs0⟩ := entry3 w u e _ rfl
    change Code.wp _ _ _ _ (((w.alloc (.cells u.cells.toArray 39)).alloc (.cells e.cells.toArray 33)).alloc (.cells StrA.zero.cells.toArray 39))
    generalize (((w.alloc (.cells u.cells.toArray 39)).alloc (.cells e.cells.toArray 33)).alloc (.cells StrA.zero.cells.toArray 39)) = W0 at bx0 be0 bz0 hb0 hs0 ⊢
    have BX0 := Lib.hid bx0
    have BE0 := Lib.hid be0
    have BZ0 := Lib.hid bz0
    have HB0 := Lib.hid hb0
    clear bx0 be0 bz0 hb0
    go_upto_region 3 with (first
      | (refine ld_str BX0.out rfl _ rfl rfl ?_)
      | (go_at_call 30; (with_reducible refine (CV.out _ HB0.out).mono ?_); rintro e1 w1 ⟨rfl, hb1⟩; have bx1 := BX0.out.keep hb1; have be1 := BE0.out.keep hb1; have bz1 := BZ0.out.keep hb1; have hw1 := below_then HB0.out hb1; have hs1 := hb1.size; obtain ⟨⟨a1, a2, a3, a4⟩, ⟨a5, a6, a7, a8⟩, a9, a10, a11, a12⟩ := bx1.net; obtain ⟨r1, r2, r3, r4, r5⟩ := bx1.rest; obtain ⟨v1, v2, ⟨v3, v4, v5, v6⟩, v7, v8⟩ := be1.c; rw [HK.out] at v1))
    go_upto_region 9 with fail
    go_upto_region 11 with (first
      | (refine ld_evnetW be1 rfl _ rfl rfl ?_)
      | (go_at_call 27; (with_reducible refine (CN.out _ hw1).mono ?_); rintro e2 w2 ⟨rfl, hb2⟩; have bx2 := bx1.keep hb2; have be2 := be1.keep hb2; have bz2 := bz1.keep hb2; have hw2 := below_then hw1 hb2; have hs2 := hb2.size; obtain ⟨⟨a1, a2, a3, a4⟩, ⟨a5, a6, a7, a8⟩, a9, a10, a11, a12⟩ := bx2.net; obtain ⟨r1, r2, r3, r4, r5⟩ := bx2.rest; obtain ⟨v1, v2, ⟨v3, v4, v5, v6⟩, v7, v8⟩ := be2.c; rw [HK.out] at v1))
    go_upto_region 12 with fail
    go_wp2_with ((refine st_str bz2 (u' := StrA.zero) rfl _ _ rfl rfl rfl ?_; intro W9 bz9 pg9; have hw9 := put_facts hw2 (by omega) pg9))
    have hres := res_str bz9
    refine bodyPost_ret (results_ctt rfl _ _ _ rfl hres) rfl ?_
    unfold StrD.feedD StrD.feedO
    rw [HE.out]
    exact ⟨StrA.zero, none, 0, rfl, rfl, StrF.zero (b := 0) |>.at, Ints.nil, hw9⟩
  · go_enter Try.func15, Try.ntmps15
    go_upto_region 1 with fail
    obtain ⟨bx0, be0, bz0, hb0, hs0⟩ := entry3 w u e _ rfl
    change Code.wp _ _ _ _ (((w.alloc (.cells u.cells.toArray 39)).alloc (.cells e.cells.toArray 33)).alloc (.cells StrA.zero.cells.toArray 39))
    generalize (((w.alloc (.cells u.cells.toArray 39)).alloc (.cells e.cells.toArray 33)).alloc (.cells StrA.zero.cells.toArray 39)) = W0 at bx0 be0 bz0 hb0 hs0 ⊢
    have BX0 := Lib.hid bx0
    have BE0 := Lib.hid be0
    have BZ0 := Lib.hid bz0
    have HB0 := Lib.hid hb0
    clear bx0 be0 bz0 hb0
    go_upto_region 3 with (first
      | (refine ld_str BX0.out rfl _ rfl rfl ?_)
      | (go_at_call 30; (with_reducible refine (CV.out _ HB0.out).mono ?_); rintro e1 w1 ⟨rfl, hb1⟩; have bx1 := BX0.out.keep hb1; have be1 := BE0.out.keep hb1; have bz1 := BZ0.out.keep hb1; have hw1 := below_then HB0.out hb1; have hs1 := hb1.size; obtain ⟨⟨a1, a2, a3, a4⟩, ⟨a5, a6, a7, a8⟩, a9, a10, a11, a12⟩ := bx1.net; obtain ⟨r1, r2, r3, r4, r5⟩ := bx1.rest; obtain ⟨v1, v2, ⟨v3, v4, v5, v6⟩, v7, v8⟩ := be1.c; rw [HK.out] at v1))
    go_upto_region 9 with fail
    go_upto_region 11 with (first
      | (refine ld_evnetW be1 rfl _ rfl rfl ?_)
      | (go_at_call 27; (with_reducible refine (CN.out _ hw1).mono ?_); rintro e2 w2 ⟨rfl, hb2⟩; have bx2 := bx1.keep hb2; have be2 := be1.keep hb2; have bz2 := bz1.keep hb2; have hw2 := below_then hw1 hb2; have hs2 := hb2.size; obtain ⟨⟨a1, a2, a3, a4⟩, ⟨a5, a6, a7, a8⟩, a9, a10, a11, a12⟩ := bx2.net; obtain ⟨r1, r2, r3, r4, r5⟩ := bx2.rest; obtain ⟨v1, v2, ⟨v3, v4, v5, v6⟩, v7, v8⟩ := be2.c; rw [HK.out] at v1))
    go_upto_region 12 with fail
    go_wp2_with ((refine st_str bz2 (u' := StrA.zero) rfl _ _ rfl rfl rfl ?_; intro W9 bz9 pg9; have hw9 := put_facts hw2 (by omega) pg9))
    have hres := res_str bz9
    refine bodyPost_ret (results_ctt rfl _ _ _ rfl hres) rfl ?_
    unfold StrD.feedD StrD.feedO
    rw [HE.out]
    exact ⟨StrA.zero, none, 0, rfl, rfl, StrF.zero (b := 0) |>.at, Ints.nil, hw9⟩
  · go_enter Try.func15, Try.ntmps15
    go_upto_region 1 with fail
    obtain ⟨bx0, be0, bz0, hb0, hs0⟩ := entry3 w u e _ rfl
    change Code.wp _ _ _ _ (((w.alloc (.cells u.cells.toArray 39)).alloc (.cells e.cells.toArray 33)).alloc (.cells StrA.zero.cells.toArray 39))
    generalize (((w.alloc (.cells u.cells.toArray 39)).alloc (.cells e.cells.toArray 33)).alloc (.cells StrA.zero.cells.toArray 39)) = W0 at bx0 be0 bz0 hb0 hs0 ⊢
    have BX0 := Lib.hid bx0
    have BE0 := Lib.hid be0
    have BZ0 := Lib.hid bz0
    have HB0 := Lib.hid hb0
    clear bx0 be0 bz0 hb0
    go_upto_region 3 with (first
      | (refine ld_str BX0.out rfl _ rfl rfl ?_)
      | (go_at_call 30; (with_reducible refine (CV.out _ HB0.out).mono ?_); rintro e1 w1 ⟨rfl, hb1⟩; have bx1 := BX0.out.keep hb1; have be1 := BE0.out.keep hb1; have bz1 := BZ0.out.keep hb1; have hw1 := below_then HB0.out hb1; have hs1 := hb1.size; obtain ⟨⟨a1, a2, a3, a4⟩, ⟨a5, a6, a7, a8⟩, a9, a10, a11, a12⟩ := bx1.net; obtain ⟨r1, r2, r3, r4, r5⟩ := bx1.rest; obtain ⟨v1, v2, ⟨v3, v4, v5, v6⟩, v7, v8⟩ := be1.c; rw [HK.out] at v1))
    go_upto_region 9 with fail
    go_upto_region 11 with (first
      | (refine ld_evnetW be1 rfl _ rfl rfl ?_)
      | (go_at_call 27; (with_reducible refine (CN.out _ hw1).mono ?_); rintro e2 w2 ⟨rfl, hb2⟩; have bx2 := bx1.keep hb2; have be2 := be1.keep hb2; have bz2 := bz1.keep hb2; have hw2 := below_then hw1 hb2; have hs2 := hb2.size; obtain ⟨⟨a1, a2, a3, a4⟩, ⟨a5, a6, a7, a8⟩, a9, a10, a11, a12⟩ := bx2.net; obtain ⟨r1, r2, r3, r4, r5⟩ := bx2.rest; obtain ⟨v1, v2, ⟨v3, v4, v5, v6⟩, v7, v8⟩ := be2.c; rw [HK.out] at v1))
    go_upto_region 12 with fail
    go_wp2_with ((refine st_str bz2 (u' := StrA.zero) rfl _ _ rfl rfl rfl ?_; intro W9 bz9 pg9; have hw9 := put_facts hw2 (by omega) pg9))
    have hres := res_str bz9
    refine bodyPost_ret (results_ctt rfl _ _ _ rfl hres) rfl ?_
    unfold StrD.feedD StrD.feedO
    rw [HE.out]
    exact ⟨StrA.zero, none, 0, rfl, rfl, StrF.zero (b := 0) |>.at, Ints.nil, hw9⟩
  · have I1 : Hid (∀ w1, Calls Try.prog 32 #[.int .i64 e.fade, .int .i64 0, .int .i64 4096] w1 fun e1 w' => e1 = .returned (.bool false) ∧ w1 = w') := fun w1 => by have := rf_In e.fade 0 4096 w1; rw [inB_no.2 h4] at this; exact this
    clear h4
    go_enter Try.func15, Try.ntmps15
    go_upto_region 1 with fail
    obtain ⟨bx0, be0, bz0, hb0, hs0⟩ := entry3 w u e _ rfl
    change Code.wp _ _ _ _ (((w.alloc (.cells u.cells.toArray 39)).alloc (.cells e.cells.toArray 33)).alloc (.cells StrA.zero.cells.toArray 39))
    generalize (((w.alloc (.cells u.cells.toArray 39)).alloc (.cells e.cells.toArray 33)).alloc (.cells StrA.zero.cells.toArray 39)) = W0 at bx0 be0 bz0 hb0 hs0 ⊢
    have BX0 := Lib.hid bx0
    have BE0 := Lib.hid be0
    have BZ0 := Lib.hid bz0
    have HB0 := Lib.hid hb0
    clear bx0 be0 bz0 hb0
    go_upto_region 3 with (first
      | (refine ld_str BX0.out rfl _ rfl rfl ?_)
      | (go_at_call 30; (with_reducible refine (CV.out _ HB0.out).mono ?_); rintro e1 w1 ⟨rfl, hb1⟩; have bx1 := BX0.out.keep hb1; have be1 := BE0.out.keep hb1; have bz1 := BZ0.out.keep hb1; have hw1 := below_then HB0.out hb1; have hs1 := hb1.size; obtain ⟨⟨a1, a2, a3, a4⟩, ⟨a5, a6, a7, a8⟩, a9, a10, a11, a12⟩ := bx1.net; obtain ⟨r1, r2, r3, r4, r5⟩ := bx1.rest; obtain ⟨v1, v2, ⟨v3, v4, v5, v6⟩, v7, v8⟩ := be1.c; rw [HK.out] at v1))
    go_upto_region 9 with fail
    go_upto_region 11 with (first
      | (refine ld_evnetW be1 rfl _ rfl rfl ?_)
      | (go_at_call 27; (with_reducible refine (CN.out _ hw1).mono ?_); rintro e2 w2 ⟨rfl, hb2⟩; have bx2 := bx1.keep hb2; have be2 := be1.keep hb2; have bz2 := bz1.keep hb2; have hw2 := below_then hw1 hb2; have hs2 := hb2.size; obtain ⟨⟨a1, a2, a3, a4⟩, ⟨a5, a6, a7, a8⟩, a9, a10, a11, a12⟩ := bx2.net; obtain ⟨r1, r2, r3, r4, r5⟩ := bx2.rest; obtain ⟨v1, v2, ⟨v3, v4, v5, v6⟩, v7, v8⟩ := be2.c; rw [HK.out] at v1))
    go_upto_region 12 with (first
      | (go_at_call 32; (with_reducible refine (I1.out _).mono ?_); rintro e3 w3 ⟨rfl, rfl⟩))
    go_wp2_with ((refine st_str bz2 (u' := StrA.zero) rfl _ _ rfl rfl rfl ?_; intro W9 bz9 pg9; have hw9 := put_facts hw2 (by omega) pg9))
    have hres := res_str bz9
    refine bodyPost_ret (results_ctt rfl _ _ _ rfl hres) rfl ?_
    unfold StrD.feedD StrD.feedO
    rw [HE.out]
    exact ⟨StrA.zero, none, 0, rfl, rfl, StrF.zero (b := 0) |>.at, Ints.nil, hw9⟩
end Go.Proofs.Ytgabfdappeakiaa
