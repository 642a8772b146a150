/- The walk of change of package stream. -/
import Derived.Test.YtgabfdappeakiaaTg
set_option linter.unusedVariables false
set_option linter.unusedSimpArgs false
namespace Go.Proofs.Ytgabfdappeakiaa
open Go.RowKit

set_option maxRecDepth 100000 in
set_option maxHeartbeats 4000000 in
/-- The errors of change. -/
theorem st_change_no (u : StrA) (e : EvA) (w : World) (hu : StrAt w u) (he : EvAt w e) (hne : u.d.chE e ≠ 0) : Calls Try.prog 29 #[u.v, e.v] w (RetCh w (u.d.chD e) (u.d.chE e)) := by
  obtain ⟨vb, hvb⟩ : ∃ b, e.net.ok = b := ⟨_, rfl⟩
  have CV : Hid (∀ w1, Below w.heap.size w w1 → Calls Try.prog 23 #[.agg e.netL.toArray] w1 fun e1 w' => e1 = .returned (.bool vb) ∧ Below w1.heap.size w1 w') := fun w1 hb => by
    have h := he.net.grow hb
    have := nw_Valid e.net.d0 e.net.d1 e.net.d2 e.net.d3 e.net.c0 e.net.c1 e.net.c2 e.net.c3 e.net.st e.net.out e.NA e.XA e.nc e.xc e.net.ns e.net.nx w1 h.nodes h.next h.n1 h.n2 h.n3 h.st
    rw [show netB _ _ _ _ _ _ _ _ _ _ _ _ = vb from hvb] at this; exact this
  clear hu he
  unfold StrD.chE at hne
  rcases vb with _ | _
  · have HE : Hid (u.d.chE e = 2) := by unfold StrD.chE; rw [hvb]; rfl
    rw [HE.out]
    clear hne hvb
    go_enter Try.func29, Try.ntmps29
    go_upto_region 1 with fail
    obtain ⟨bx0, be0, bz0, hb0, hs0⟩ := entry3 w u e _ rfl
    change Code.wp _ _ _ _ (((w.alloc (.cells u.cells.toArray 39)).alloc (.cells e.cells.toArray 33)).alloc (.cells StrA.zero.cells.toArray 39))
    generalize (((w.alloc (.cells u.cells.toArray 39)).alloc (.cells e.cells.toArray 33)).alloc (.cells StrA.zero.cells.toArray 39)) = W0 at bx0 be0 bz0 hb0 hs0 ⊢
    have BX0 := Lib.hid bx0
    have BE0 := Lib.hid be0
    have BZ0 := Lib.hid bz0
    have HB0 := Lib.hid hb0
    clear bx0 be0 bz0 hb0
    go_wp2_with (first
      | (refine ld_evnet BE0.out rfl _ rfl rfl ?_)
      | (go_at_call 23; (with_reducible refine (CV.out _ HB0.out).mono ?_); rintro e1 w1 ⟨rfl, hb1⟩; have bx1 := BX0.out.keep hb1; have be1 := BE0.out.keep hb1; have bz1 := BZ0.out.keep hb1; have hw1 := below_then HB0.out hb1; have hs1 := hb1.size; obtain ⟨⟨a1, a2, a3, a4⟩, ⟨a5, a6, a7, a8⟩, a9, a10, a11, a12⟩ := bx1.net; obtain ⟨r1, r2, r3, r4, r5⟩ := bx1.rest; obtain ⟨v1, v2, ⟨v3, v4, v5, v6⟩, v7, v8⟩ := be1.c)
      | (refine st_str bz1 (u' := StrA.zero) rfl _ _ rfl rfl rfl ?_; intro W2 bz2 pg2; have hw2 := put_facts hw1 (by omega) pg2))
    have hres := res_str bz2
    refine bodyPost_ret (results_ct rfl _ _ _ rfl hres) rfl ?_
    unfold StrD.chD
    rw [HE.out]
    exact ⟨StrA.zero, rfl, rfl, StrF.zero, hw2⟩
  rw [hvb, if_pos rfl] at hne
  by_cases hs : e.net.same u.d.net = true ∧ 0 ≤ e.fade ∧ e.fade ≤ 4096
  · rw [if_pos hs] at hne
    have hl : 0 < u.d.left := by
      by_cases h : 0 < u.d.left
      · exact h
      · rw [if_neg h] at hne; exact absurd rfl hne
    have HE : Hid (u.d.chE e = 10) := by unfold StrD.chE; rw [hvb, if_pos rfl, if_pos hs, if_pos hl]; exact rfl
    obtain ⟨hs1, hf1, hf2⟩ := hs
    unfold NetD.same at hs1
    obtain ⟨s0, s1, s2, s3⟩ := of_decide_eq_true hs1
    rw [HE.out]
    clear hne hvb hs1
    go_enter Try.func29, Try.ntmps29
    go_upto_region 1 with fail
    obtain ⟨bx0, be0, bz0, hb0, hs0⟩ := entry3 w u e _ rfl
    change Code.wp _ _ _ _ (((w.alloc (.cells u.cells.toArray 39)).alloc (.cells e.cells.toArray 33)).alloc (.cells StrA.zero.cells.toArray 39))
    generalize (((w.alloc (.cells u.cells.toArray 39)).alloc (.cells e.cells.toArray 33)).alloc (.cells StrA.zero.cells.toArray 39)) = W0 at bx0 be0 bz0 hb0 hs0 ⊢
    have BX0 := Lib.hid bx0
    have BE0 := Lib.hid be0
    have BZ0 := Lib.hid bz0
    have HB0 := Lib.hid hb0
    clear bx0 be0 bz0 hb0
    go_wp2_with (first
      | (refine ld_evnet BE0.out rfl _ rfl rfl ?_)
      | (go_at_call 23; (with_reducible refine (CV.out _ HB0.out).mono ?_); rintro e1 w1 ⟨rfl, hb1⟩; have bx1 := BX0.out.keep hb1; have be1 := BE0.out.keep hb1; have bz1 := BZ0.out.keep hb1; have hw1 := below_then HB0.out hb1; have hs1 := hb1.size; obtain ⟨⟨a1, a2, a3, a4⟩, ⟨a5, a6, a7, a8⟩, a9, a10, a11, a12⟩ := bx1.net; obtain ⟨r1, r2, r3, r4, r5⟩ := bx1.rest; obtain ⟨v1, v2, ⟨v3, v4, v5, v6⟩, v7, v8⟩ := be1.c)
      | (refine st_str bz1 (u' := StrA.zero) rfl _ _ rfl rfl rfl ?_; intro W2 bz2 pg2; have hw2 := put_facts hw1 (by omega) pg2))
    have hres := res_str bz2
    refine bodyPost_ret (results_ct rfl _ _ _ rfl hres) rfl ?_
    unfold StrD.chD
    rw [HE.out]
    exact ⟨StrA.zero, rfl, rfl, StrF.zero, hw2⟩
  rw [if_neg hs] at hne
  have HE : Hid (u.d.chE e = 1) := by unfold StrD.chE; rw [hvb, if_pos rfl, if_neg hs]; exact rfl
  have hcase : (e.net.d0 ≠ u.d.net.d0 ∨ (e.net.d0 = u.d.net.d0 ∧ (e.net.d1 ≠ u.d.net.d1 ∨ (e.net.d1 = u.d.net.d1 ∧ (e.net.d2 ≠ u.d.net.d2 ∨ (e.net.d2 = u.d.net.d2 ∧ (e.net.d3 ≠ u.d.net.d3 ∨ (e.net.d3 = u.d.net.d3 ∧ (e.fade < 0 ∨ (0 ≤ e.fade ∧ 4096 < e.fade)))))))))) := by
    unfold NetD.same at hs
    rw [decide_eq_true_eq] at hs
    omega
  rw [HE.out]
  clear hne hvb hs
  rcases hcase with h0 | ⟨h0, h1 | ⟨h1, h2 | ⟨h2, h3 | ⟨h3, h4 | ⟨h4, h5⟩⟩⟩⟩⟩
  · go_enter Try.func29, Try.ntmps29
    go_upto_region 1 with fail
    obtain ⟨bx0, be0, bz0, hb0, hs0⟩ := entry3 w u e _ rfl
    change Code.wp _ _ _ _ (((w.alloc (.cells u.cells.toArray 39)).alloc (.cells e.cells.toArray 33)).alloc (.cells StrA.zero.cells.toArray 39))
    generalize (((w.alloc (.cells u.cells.toArray 39)).alloc (.cells e.cells.toArray 33)).alloc (.cells StrA.zero.cells.toArray 39)) = W0 at bx0 be0 bz0 hb0 hs0 ⊢
    have BX0 := Lib.hid bx0
    have BE0 := Lib.hid be0
    have BZ0 := Lib.hid bz0
    have HB0 := Lib.hid hb0
    clear bx0 be0 bz0 hb0
    go_wp2_with (first
      | (refine ld_evnet BE0.out rfl _ rfl rfl ?_)
      | (go_at_call 23; (with_reducible refine (CV.out _ HB0.out).mono ?_); rintro e1 w1 ⟨rfl, hb1⟩; have bx1 := BX0.out.keep hb1; have be1 := BE0.out.keep hb1; have bz1 := BZ0.out.keep hb1; have hw1 := below_then HB0.out hb1; have hs1 := hb1.size; obtain ⟨⟨a1, a2, a3, a4⟩, ⟨a5, a6, a7, a8⟩, a9, a10, a11, a12⟩ := bx1.net; obtain ⟨r1, r2, r3, r4, r5⟩ := bx1.rest; obtain ⟨v1, v2, ⟨v3, v4, v5, v6⟩, v7, v8⟩ := be1.c)
      | (refine st_str bz1 (u' := StrA.zero) rfl _ _ rfl rfl rfl ?_; intro W2 bz2 pg2; have hw2 := put_facts hw1 (by omega) pg2))
    have hres := res_str bz2
    refine bodyPost_ret (results_ct rfl _ _ _ rfl hres) rfl ?_
    unfold StrD.chD
    rw [HE.out]
    exact ⟨StrA.zero, rfl, rfl, StrF.zero, hw2⟩
  · go_enter Try.func29, Try.ntmps29
    go_upto_region 1 with fail
    obtain ⟨bx0, be0, bz0, hb0, hs0⟩ := entry3 w u e _ rfl
    change Code.wp _ _ _ _ (((w.alloc (.cells u.cells.toArray 39)).alloc (.cells e.cells.toArray 33)).alloc (.cells StrA.zero.cells.toArray 39))
    generalize (((w.alloc (.cells u.cells.toArray 39)).alloc (.cells e.cells.toArray 33)).alloc (.cells StrA.zero.cells.toArray 39)) = W0 at bx0 be0 bz0 hb0 hs0 ⊢
    have BX0 := Lib.hid bx0
    have BE0 := Lib.hid be0
    have BZ0 := Lib.hid bz0
    have HB0 := Lib.hid hb0
    clear bx0 be0 bz0 hb0
    go_wp2_with (first
      | (refine ld_evnet BE0.out rfl _ rfl rfl ?_)
      | (go_at_call 23; (with_reducible refine (CV.out _ HB0.out).mono ?_); rintro e1 w1 ⟨rfl, hb1⟩; have bx1 := BX0.out.keep hb1; have be1 := BE0.out.keep hb1; have bz1 := BZ0.out.keep hb1; have hw1 := below_then HB0.out hb1; have hs1 := hb1.size; obtain ⟨⟨a1, a2, a3, a4⟩, ⟨a5, a6, a7, a8⟩, a9, a10, a11, a12⟩ := bx1.net; obtain ⟨r1, r2, r3, r4, r5⟩ := bx1.rest; obtain ⟨v1, v2, ⟨v3, v4, v5, v6⟩, v7, v8⟩ := be1.c)
      | (refine st_str bz1 (u' := StrA.zero) rfl _ _ rfl rfl rfl ?_; intro W2 bz2 pg2; have hw2 := put_facts hw1 (by omega) pg2))
    have hres := res_str bz2
    refine bodyPost_ret (results_ct rfl _ _ _ rfl hres) rfl ?_
    unfold StrD.chD
    rw [HE.out]
    exact ⟨StrA.zero, rfl, rfl, StrF.zero, hw2⟩
  · go_enter Try.func29, Try.ntmps29
    go_upto_region 1 with fail
    obtain ⟨bx0, be0, bz0, hb0, hs0⟩ := entry3 w u e _ rfl
    change Code.wp _ _ _ _ (((w.alloc (.cells u.cells.toArray 39)).alloc (.cells e.cells.toArray 33)).alloc (.cells StrA.zero.cells.toArray 39))
    generalize (((w.alloc (.cells u.cells.toArray 39)).alloc (.cells e.cells.toArray 33)).alloc (.cells StrA.zero.cells.toArray 39)) = W0 at bx0 be0 bz0 hb0 hs0 ⊢
    have BX0 := Lib.hid bx0
    have BE0 := Lib.hid be0
    have BZ0 := Lib.hid bz0
    have HB0 := Lib.hid hb0
    clear bx0 be0 bz0 hb0
    go_wp2_with (first
      | (refine ld_evnet BE0.out rfl _ rfl rfl ?_)
      | (go_at_call 23; (with_reducible refine (CV.out _ HB0.out).mono ?_); rintro e1 w1 ⟨rfl, hb1⟩; have bx1 := BX0.out.keep hb1; have be1 := BE0.out.keep hb1; have bz1 := BZ0.out.keep hb1; have hw1 := below_then HB0.out hb1; have hs1 := hb1.size; obtain ⟨⟨a1, a2, a3, a4⟩, ⟨a5, a6, a7, a8⟩, a9, a10, a11, a12⟩ := bx1.net; obtain ⟨r1, r2, r3, r4, r5⟩ := bx1.rest; obtain ⟨v1, v2, ⟨v3, v4, v5, v6⟩, v7, v8⟩ := be1.c)
      | (refine st_str bz1 (u' := StrA.zero) rfl _ _ rfl rfl rfl ?_; intro W2 bz2 pg2; have hw2 := put_facts hw1 (by omega) pg2))
    have hres := res_str bz2
    refine bodyPost_ret (results_ct rfl _ _ _ rfl hres) rfl ?_
    unfold StrD.chD
    rw [HE.out]
    exact ⟨StrA.zero, rfl, rfl, StrF.zero, hw2⟩
  · go_enter Try.func29, Try.ntmps29
    go_upto_region 1 with fail
    obtain ⟨bx0, be0, bz0, hb0, hs0⟩ := entry3 w u e _ rfl
    change Code.wp _ _ _ _ (((w.alloc (.cells u.cells.toArray 39)).alloc (.cells e.cells.toArray 33)).alloc (.cells StrA.zero.cells.toArray 39))
    generalize (((w.alloc (.cells u.cells.toArray 39)).alloc (.cells e.cells.toArray 33)).alloc (.cells StrA.zero.cells.toArray 39)) = W0 at bx0 be0 bz0 hb0 hs0 ⊢
    have BX0 := Lib.hid bx0
    have BE0 := Lib.hid be0
    have BZ0 := Lib.hid bz0
    have HB0 := Lib.hid hb0
    clear bx0 be0 bz0 hb0
    go_wp2_with (first
      | (refine ld_evnet BE0.out rfl _ rfl rfl ?_)
      | (go_at_call 23; (with_reducible refine (CV.out _ HB0.out).mono ?_); rintro e1 w1 ⟨rfl, hb1⟩; have bx1 := BX0.out.keep hb1; have be1 := BE0.out.keep hb1; have bz1 := BZ0.out.keep hb1; have hw1 := below_then HB0.out hb1; have hs1 := hb1.size; obtain ⟨⟨a1, a2, a3, a4⟩, ⟨a5, a6, a7, a8⟩, a9, a10, a11, a12⟩ := bx1.net; obtain ⟨r1, r2, r3, r4, r5⟩ := bx1.rest; obtain ⟨v1, v2, ⟨v3, v4, v5, v6⟩, v7, v8⟩ := be1.c)
      | (refine st_str bz1 (u' := StrA.zero) rfl _ _ rfl rfl rfl ?_; intro W2 bz2 pg2; have hw2 := put_facts hw1 (by omega) pg2))
    have hres := res_str bz2
    refine bodyPost_ret (results_ct rfl _ _ _ rfl hres) rfl ?_
    unfold StrD.chD
    rw [HE.out]
    exact ⟨StrA.zero, rfl, rfl, StrF.zero, hw2⟩
  · go_enter Try.func29, Try.ntmps29
    go_upto_region 1 with fail
    obtain ⟨bx0, be0, bz0, hb0, hs0⟩ := entry3 w u e _ rfl
    change Code.wp _ _ _ _ (((w.alloc (.cells u.cells.toArray 39)).alloc (.cells e.cells.toArray 33)).alloc (.cells StrA.zero.cells.toArray 39))
    generalize (((w.alloc (.cells u.cells.toArray 39)).alloc (.cells e.cells.toArray 33)).alloc (.cells StrA.zero.cells.toArray 39)) = W0 at bx0 be0 bz0 hb0 hs0 ⊢
    have BX0 := Lib.hid bx0
    have BE0 := Lib.hid be0
    have BZ0 := Lib.hid bz0
    have HB0 := Lib.hid hb0
    clear bx0 be0 bz0 hb0
    go_wp2_with (first
      | (refine ld_evnet BE0.out rfl _ rfl rfl ?_)
      | (go_at_call 23; (with_reducible refine (CV.out _ HB0.out).mono ?_); rintro e1 w1 ⟨rfl, hb1⟩; have bx1 := BX0.out.keep hb1; have be1 := BE0.out.keep hb1; have bz1 := BZ0.out.keep hb1; have hw1 := below_then HB0.out hb1; have hs1 := hb1.size; obtain ⟨⟨a1, a2, a3, a4⟩, ⟨a5, a6, a7, a8⟩, a9, a10, a11, a12⟩ := bx1.net; obtain ⟨r1, r2, r3, r4, r5⟩ := bx1.rest; obtain ⟨v1, v2, ⟨v3, v4, v5, v6⟩, v7, v8⟩ := be1.c)
      | (refine st_str bz1 (u' := StrA.zero) rfl _ _ rfl rfl rfl ?_; intro W2 bz2 pg2; have hw2 := put_facts hw1 (by omega) pg2))
    have hres := res_str bz2
    refine bodyPost_ret (results_ct rfl _ _ _ rfl hres) rfl ?_
    unfold StrD.chD
    rw [HE.out]
    exact ⟨StrA.zero, rfl, rfl, StrF.zero, hw2⟩
  · go_enter Try.func29, Try.ntmps29
    go_upto_region 1 with fail
    obtain ⟨bx0, be0, bz0, hb0, hs0⟩ := entry3 w u e _ rfl
    change Code.wp _ _ _ _ (((w.alloc (.cells u.cells.toArray 39)).alloc (.cells e.cells.toArray 33)).alloc (.cells StrA.zero.cells.toArray 39))
    generalize (((w.alloc (.cells u.cells.toArray 39)).alloc (.cells e.cells.toArray 33)).alloc (.cells StrA.zero.cells.toArray 39)) = W0 at bx0 be0 bz0 hb0 hs0 ⊢
    have BX0 := Lib.hid bx0
    have BE0 := Lib.hid be0
    have BZ0 := Lib.hid bz0
    have HB0 := Lib.hid hb0
    clear bx0 be0 bz0 hb0
    go_wp2_with (first
      | (refine ld_evnet BE0.out rfl _ rfl rfl ?_)
      | (go_at_call 23; (with_reducible refine (CV.out _ HB0.out).mono ?_); rintro e1 w1 ⟨rfl, hb1⟩; have bx1 := BX0.out.keep hb1; have be1 := BE0.out.keep hb1; have bz1 := BZ0.out.keep hb1; have hw1 := below_then HB0.out hb1; have hs1 := hb1.size; obtain ⟨⟨a1, a2, a3, a4⟩, ⟨a5, a6, a7, a8⟩, a9, a10, a11, a12⟩ := bx1.net; obtain ⟨r1, r2, r3, r4, r5⟩ := bx1.rest; obtain ⟨v1, v2, ⟨v3, v4, v5, v6⟩, v7, v8⟩ := be1.c)
      | (refine st_str bz1 (u' := StrA.zero) rfl _ _ rfl rfl rfl ?_; intro W2 bz2 pg2; have hw2 := put_facts hw1 (by omega) pg2))
    have hres := res_str bz2
    refine bodyPost_ret (results_ct rfl _ _ _ rfl hres) rfl ?_
    unfold StrD.chD
    rw [HE.out]
    exact ⟨StrA.zero, rfl, rfl, StrF.zero, hw2⟩
end Go.Proofs.Ytgabfdappeakiaa
