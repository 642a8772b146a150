/- The walk of Feed of package stream. -/
import Derived.Test.YtgabfdappeakiaaTf
import Derived.Test.YtgabfdappeakiaaTh
import Derived.Test.YtgabfdappeakiaaTi
set_option linter.unusedVariables false
set_option linter.unusedSimpArgs false
namespace Go.Proofs.Ytgabfdappeakiaa
open Go.RowKit

/-- The error of an event. -/
def StrD.feedE (d : StrD) (e : EvA) : Int := if d.Good then (if e.kind = 1 then d.sampE e.x else if e.kind = 2 then d.chE e else 1) else 2
/-- What an event leaves. -/
def StrD.feedS (d : StrD) (e : EvA) : StrD := if e.kind = 1 then d.sampD e.x else d.chD e
def StrD.feedD (d : StrD) (e : EvA) : StrD := if d.feedE e = 0 then { d.feedS e with ev := (d.feedS e).ev + 1 } else StrD.zero
def StrD.feedO (d : StrD) (e : EvA) : List Int := if d.feedE e = 0 then (if e.kind = 1 then d.sampO e.x else []) else []
theorem step_ev (d : StrD) (x : List Int) (k : Nat) : (d.step x k).ev = d.ev := by unfold StrD.step; split <;> rfl
theorem StrF.evs {b : Nat} {w : World} {u : StrA} (h : StrF b w u) (n : Int) : StrF b w { u with d := { u.d with ev := n } } := ⟨h.net, h.old, h.s, h.f, h.n1, h.n2⟩
theorem st_change (u : StrA) (e : EvA) (w : World) (hu : StrAt w u) (hg : u.d.Good) (he : EvAt w e) : Calls Try.prog 29 #[u.v, e.v] w (RetCh w (u.d.chD e) (u.d.chE e)) := by
  by_cases h : u.d.chE e = 0
  · have := st_change_ok u e w hu hg he h
    unfold StrD.chD
    rw [if_pos h, h]
    exact this
  · exact st_change_no u e w hu he h
set_option maxRecDepth 100000 in
set_option maxHeartbeats 4000000 in
theorem st_Feed (u : StrA) (e : EvA) (w : World) (hu : StrAt w u) (he : EvAt w e) : Calls Try.prog 14 #[u.v, e.v] w (RetFeed w (u.d.feedD e) (u.d.feedO e) (u.d.feedE e)) := by
  by_cases hg : u.d.Good
  · have CV : Hid (∀ w1, Below w.heap.size w w1 → Calls Try.prog 11 #[u.v] w1 fun e1 w' => e1 = .returned (.bool true) ∧ Below w1.heap.size w1 w') := fun w1 hb => by
      have := st_Valid u w1 (hu.grow hb)
      rw [decide_eq_true hg] at this; exact this
    obtain ⟨E, hEE⟩ : ∃ E, u.d.feedE e = E := ⟨_, rfl⟩
    have hE := Lib.hid hEE
    have hev := hg.2.2.1
    unfold StrD.feedE at hEE
    rw [if_pos hg] at hEE
    by_cases hk : e.kind = 1
    · rw [if_pos hk] at hEE
      have CS : Hid (∀ w1, Below w.heap.size w w1 → Calls Try.prog 28 #[u.v, .slice e.BA e.x.length e.bc] w1 (RetFeed w1 (u.d.sampD e.x) (u.d.sampO e.x) E)) := fun w1 hb => by
        have := st_samples u e.BA e.x.length e.bc e.x w1 (hu.grow hb) hg (he.x.grow hb) rfl he.n
        rw [hEE] at this; exact this
      have HK := Lib.hid hk
      rw [hE.out]
      by_cases hE0 : E = 0
      · have HEV0 : Hid ((u.d.sampD e.x).ev = u.d.ev) := by show _ = _; unfold StrD.sampD; rw [if_pos (hEE.trans hE0)]; exact step_ev _ _ _
        subst hE0
        clear hu he hg hEE hk
        go_enter Try.func14, Try.ntmps14
        go_upto_region 1 with fail
        obtain ⟨bx0, be0, bz0, hb0, hs0⟩ := entry3 w u e _ rfl
        change Code.wp _ _ _ _ (((w.alloc (.cells u.cells.toArray 39)).alloc (.cells e.cells.toArray 33)).alloc (.cells StrA.zero.cells.toArray 39))
        generalize (((w.alloc (.cells u.cells.toArray 39)).alloc (.cells e.cells.toArray 33)).alloc (.cells StrA.zero.cells.toArray 39)) = W0 at bx0 be0 bz0 hb0 hs0 ⊢
        have BX0 := Lib.hid bx0
        have BE0 := Lib.hid be0
        have BZ0 := Lib.hid bz0
        have HB0 := Lib.hid hb0
        clear bx0 be0 bz0 hb0
        go_wp2_with (first
          | (refine ld_str BX0.out rfl _ rfl rfl ?_)
          | (go_at_call 11; (with_reducible refine (CV.out _ HB0.out).mono ?_); rintro e1 w1 ⟨rfl, hb1⟩; have bx1 := BX0.out.keep hb1; have be1 := BE0.out.keep hb1; have bz1 := BZ0.out.keep hb1; have hw1 := below_then HB0.out hb1; have hs1 := hb1.size; obtain ⟨v1, v2, ⟨v3, v4, v5, v6⟩, v7, v8⟩ := be1.c; rw [HK.out] at v1)
          | (refine ld_str bx1 rfl _ rfl rfl ?_)
          | (refine ld_ev be1 rfl _ rfl rfl ?_)
          | (go_at_call 28; (with_reducible refine (CS.out _ hw1).mono ?_); rintro e2 w2 ⟨us, SA, sc, rfl, hd2, hf2, hi2, hb2⟩; have bx2 := bx1.keep hb2; have bz2 := bz1.keep hb2; have hw2 := below_then hw1 hb2; have hs2 := hb2.size; have HEV : Hid (us.d.ev = u.d.ev) := (by show _ = _; rw [hd2]; exact HEV0.out); have HD2 := Lib.hid hd2; clear hd2)
          | (refine st_str bx2 rfl _ _ rfl rfl rfl ?_; intro W3 bx3 pg3; have bz3 := bz2.away pg3 (by omega); have hw3 := put_facts hw2 (Nat.le_refl _) pg3; have hf3 := hf2.away pg3 (by omega); have hi3 := hi2.away pg3 (by omega); obtain ⟨r1, r2, r3, r4, r5⟩ := bx3.rest; rw [HEV.out] at r5; have hfr3 := bx3.2.2; have hl3 := bx3.1; obtain ⟨bx4, pg4⟩ := bx3.setEv (u.d.ev + 1); have bz4 := bz3.away pg4 (by omega); have hw4 := put_facts hw3 (Nat.le_refl _) pg4; have hf4 := hf3.away pg4 (by omega); have hi4 := hi3.away pg4 (by omega))
          | (refine ld_str bx4 rfl _ rfl rfl ?_)
          | (refine st_str bz4 rfl _ _ rfl rfl rfl ?_; intro W5 bz5 pg5; have hw5 := put_facts hw4 (by omega) pg5; have hf5 := hf4.away pg5 (by omega); have hi5 := hi4.away pg5 (by omega)))
        have hres := res_str bz5
        refine bodyPost_ret (results_ctt rfl _ _ _ rfl hres) rfl ?_
        unfold StrD.feedD StrD.feedO
        rw [hE.out, if_pos rfl, if_pos rfl]
        refine ⟨_, SA, sc, ?_, ?_, hf5.evs (u.d.ev + 1) |>.base (by omega), ?_, hw5⟩
        · rw [if_pos HK.out]; rfl
        · unfold StrD.feedS
          rw [if_pos HK.out, ← HD2.out, HEV.out]
        · rw [if_pos HK.out]; exact hi5.base (by omega)
      · clear hu he hg hEE hk
        go_enter Try.func14, Try.ntmps14
        go_upto_region 1 with fail
        obtain ⟨bx0, be0, bz0, hb0, hs0⟩ := entry3 w u e _ rfl
        change Code.wp _ _ _ _ (((w.alloc (.cells u.cells.toArray 39)).alloc (.cells e.cells.toArray 33)).alloc (.cells StrA.zero.cells.toArray 39))
        generalize (((w.alloc (.cells u.cells.toArray 39)).alloc (.cells e.cells.toArray 33)).alloc (.cells StrA.zero.cells.toArray 39)) = W0 at bx0 be0 bz0 hb0 hs0 ⊢
        have BX0 := Lib.hid bx0
        have BE0 := Lib.hid be0
        have BZ0 := Lib.hid bz0
        have HB0 := Lib.hid hb0
        clear bx0 be0 bz0 hb0
        go_wp2_with (first
          | (refine ld_str BX0.out rfl _ rfl rfl ?_)
          | (go_at_call 11; (with_reducible refine (CV.out _ HB0.out).mono ?_); rintro e1 w1 ⟨rfl, hb1⟩; have bx1 := BX0.out.keep hb1; have be1 := BE0.out.keep hb1; have bz1 := BZ0.out.keep hb1; have hw1 := below_then HB0.out hb1; have hs1 := hb1.size; obtain ⟨v1, v2, ⟨v3, v4, v5, v6⟩, v7, v8⟩ := be1.c; rw [HK.out] at v1)
          | (refine ld_str bx1 rfl _ rfl rfl ?_)
          | (refine ld_ev be1 rfl _ rfl rfl ?_)
          | (go_at_call 28; (with_reducible refine (CS.out _ hw1).mono ?_); rintro e2 w2 ⟨us, SA, sc, rfl, hd2, hf2, hi2, hb2⟩; have bx2 := bx1.keep hb2; have bz2 := bz1.keep hb2; have hw2 := below_then hw1 hb2; have hs2 := hb2.size)
          | (refine st_str bx2 rfl _ _ rfl rfl rfl ?_; intro W3 bx3 pg3; have bz3 := bz2.away pg3 (by omega); have hw3 := put_facts hw2 (Nat.le_refl _) pg3)
          | (refine st_str bz3 (u' := StrA.zero) rfl _ _ rfl rfl rfl ?_; intro W4 bz4 pg4; have hw4 := put_facts hw3 (by omega) pg4))
        have hres := res_str bz4
        refine bodyPost_ret (results_ctt rfl _ _ _ rfl hres) rfl ?_
        unfold StrD.feedD StrD.feedO
        rw [hE.out, if_neg hE0, if_neg hE0]
        exact ⟨StrA.zero, none, 0, rfl, rfl, StrF.zero, IntsF.nil, hw4⟩
    · rw [if_neg hk] at hEE
      have HK1 := Lib.hid hk
      by_cases hk2 : e.kind = 2
      · rw [if_pos hk2] at hEE
        have CC : Hid (∀ w1, Below w.heap.size w w1 → Calls Try.prog 29 #[u.v, e.v] w1 (RetCh w1 (u.d.chD e) E)) := fun w1 hb => by
          have := st_change u e w1 (hu.grow hb) hg (he.grow hb)
          rw [hEE] at this; exact this
        have HK := Lib.hid hk2
        rw [hE.out]
        by_cases hE0 : E = 0
        · have HEV0 : Hid ((u.d.chD e).ev = u.d.ev) := by show _ = _; unfold StrD.chD; rw [if_pos (hEE.trans hE0)]; rfl
          subst hE0
          clear hu he hg hEE hk hk2
          go_enter Try.func14, Try.ntmps14
          go_upto_region 1 with fail
          obtain ⟨bx0, be0, bz0, hb0, hs0⟩ := entry3 w u e _ rfl
          change Code.wp _ _ _ _ (((w.alloc (.cells u.cells.toArray 39)).alloc (.cells e.cells.toArray 33)).alloc (.cells StrA.zero.cells.toArray 39))
          generalize (((w.alloc (.cells u.cells.toArray 39)).alloc (.cells e.cells.toArray 33)).alloc (.cells StrA.zero.cells.toArray 39)) = W0 at bx0 be0 bz0 hb0 hs0 ⊢
          have BX0 := Lib.hid bx0
          have BE0 := Lib.hid be0
          have BZ0 := Lib.hid bz0
          have HB0 := Lib.hid hb0
          clear bx0 be0 bz0 hb0
          go_wp2_with (first
            | (refine ld_str BX0.out rfl _ rfl rfl ?_)
            | (go_at_call 11; (with_reducible refine (CV.out _ HB0.out).mono ?_); rintro e1 w1 ⟨rfl, hb1⟩; have bx1 := BX0.out.keep hb1; have be1 := BE0.out.keep hb1; have bz1 := BZ0.out.keep hb1; have hw1 := below_then HB0.out hb1; have hs1 := hb1.size; obtain ⟨v1, v2, ⟨v3, v4, v5, v6⟩, v7, v8⟩ := be1.c; rw [HK.out] at v1)
            | (refine ld_str bx1 rfl _ rfl rfl ?_)
            | (refine ld_ev be1 rfl _ rfl rfl ?_)
            | (go_at_call 29; (with_reducible refine (CC.out _ hw1).mono ?_); rintro e2 w2 ⟨us, rfl, hd2, hf2, hb2⟩; have bx2 := bx1.keep hb2; have bz2 := bz1.keep hb2; have hw2 := below_then hw1 hb2; have hs2 := hb2.size; have HEV : Hid (us.d.ev = u.d.ev) := (by show _ = _; rw [hd2]; exact HEV0.out); have HD2 := Lib.hid hd2; clear hd2)
            | (refine st_str bx2 rfl _ _ rfl rfl rfl ?_; intro W3 bx3 pg3; have bz3 := bz2.away pg3 (by omega); have hw3 := put_facts hw2 (Nat.le_refl _) pg3; have hf3 := hf2.away pg3 (by omega); obtain ⟨r1, r2, r3, r4, r5⟩ := bx3.rest; rw [HEV.out] at r5; have hfr3 := bx3.2.2; have hl3 := bx3.1; obtain ⟨bx4, pg4⟩ := bx3.setEv (u.d.ev + 1); have bz4 := bz3.away pg4 (by omega); have hw4 := put_facts hw3 (Nat.le_refl _) pg4; have hf4 := hf3.away pg4 (by omega))
            | (refine ld_str bx4 rfl _ rfl rfl ?_)
            | (refine st_str bz4 rfl _ _ rfl rfl rfl ?_; intro W5 bz5 pg5; have hw5 := put_facts hw4 (by omega) pg5; have hf5 := hf4.away pg5 (by omega)))
          have hres := res_str bz5
          refine bodyPost_ret (results_ctt rfl _ _ _ rfl hres) rfl ?_
          unfold StrD.feedD StrD.feedO
          rw [hE.out, if_pos rfl, if_pos rfl]
          refine ⟨_, none, 0, ?_, ?_, hf5.evs (u.d.ev + 1) |>.base (by omega), ?_, hw5⟩
          · rw [if_neg HK1.out]; rfl
          · unfold StrD.feedS
            rw [if_neg HK1.out, ← HD2.out, HEV.out]
          · rw [if_neg HK1.out]; exact IntsF.nil
        · clear hu he hg hEE hk hk2
          go_enter Try.func14, Try.ntmps14
          go_upto_region 1 with fail
          obtain ⟨bx0, be0, bz0, hb0, hs0⟩ := entry3 w u e _ rfl
          change Code.wp _ _ _ _ (((w.alloc (.cells u.cells.toArray 39)).alloc (.cells e.cells.toArray 33)).alloc (.cells StrA.zero.cells.toArray 39))
          generalize (((w.alloc (.cells u.cells.toArray 39)).alloc (.cells e.cells.toArray 33)).alloc (.cells StrA.zero.cells.toArray 39)) = W0 at bx0 be0 bz0 hb0 hs0 ⊢
          have BX0 := Lib.hid bx0
          have BE0 := Lib.hid be0
          have BZ0 := Lib.hid bz0
          have HB0 := Lib.hid hb0
          clear bx0 be0 bz0 hb0
          go_wp2_with (first
            | (refine ld_str BX0.out rfl _ rfl rfl ?_)
            | (go_at_call 11; (with_reducible refine (CV.out _ HB0.out).mono ?_); rintro e1 w1 ⟨rfl, hb1⟩; have bx1 := BX0.out.keep hb1; have be1 := BE0.out.keep hb1; have bz1 := BZ0.out.keep hb1; have hw1 := below_then HB0.out hb1; have hs1 := hb1.size; obtain ⟨v1, v2, ⟨v3, v4, v5, v6⟩, v7, v8⟩ := be1.c; rw [HK.out] at v1)
            | (refine ld_str bx1 rfl _ rfl rfl ?_)
            | (refine ld_ev be1 rfl _ rfl rfl ?_)
            | (go_at_call 29; (with_reducible refine (CC.out _ hw1).mono ?_); rintro e2 w2 ⟨us, rfl, hd2, hf2, hb2⟩; have bx2 := bx1.keep hb2; have bz2 := bz1.keep hb2; have hw2 := below_then hw1 hb2; have hs2 := hb2.size)
            | (refine st_str bx2 rfl _ _ rfl rfl rfl ?_; intro W3 bx3 pg3; have bz3 := bz2.away pg3 (by omega); have hw3 := put_facts hw2 (Nat.le_refl _) pg3)
            | (refine st_str bz3 (u' := StrA.zero) rfl _ _ rfl rfl rfl ?_; intro W4 bz4 pg4; have hw4 := put_facts hw3 (by omega) pg4))
          have hres := res_str bz4
          refine bodyPost_ret (results_ctt rfl _ _ _ rfl hres) rfl ?_
          unfold StrD.feedD StrD.feedO
          rw [hE.out, if_neg hE0, if_neg hE0]
          exact ⟨StrA.zero, none, 0, rfl, rfl, StrF.zero, IntsF.nil, hw4⟩
      · rw [if_neg hk2] at hEE
        subst hEE
        rw [hE.out]
        clear hu he hg
        go_enter Try.func14, Try.ntmps14
        go_upto_region 1 with fail
        obtain ⟨bx0, be0, bz0, hb0, hs0⟩ := entry3 w u e _ rfl
        change Code.wp _ _ _ _ (((w.alloc (.cells u.cells.toArray 39)).alloc (.cells e.cells.toArray 33)).alloc (.cells StrA.zero.cells.toArray 39))
        generalize (((w.alloc (.cells u.cells.toArray 39)).alloc (.cells e.cells.toArray 33)).alloc (.cells StrA.zero.cells.toArray 39)) = W0 at bx0 be0 bz0 hb0 hs0 ⊢
        have BX0 := Lib.hid bx0
        have BE0 := Lib.hid be0
        have BZ0 := Lib.hid bz0
        have HB0 := Lib.hid hb0
        clear bx0 be0 bz0 hb0
        go_wp2_with (first
          | (refine ld_str BX0.out rfl _ rfl rfl ?_)
          | (go_at_call 11; (with_reducible refine (CV.out _ HB0.out).mono ?_); rintro e1 w1 ⟨rfl, hb1⟩; have bx1 := BX0.out.keep hb1; have be1 := BE0.out.keep hb1; have bz1 := BZ0.out.keep hb1; have hw1 := below_then HB0.out hb1; have hs1 := hb1.size; obtain ⟨v1, v2, ⟨v3, v4, v5, v6⟩, v7, v8⟩ := be1.c)
          | (refine ld_str bx1 rfl _ rfl rfl ?_)
          | (refine ld_ev be1 rfl _ rfl rfl ?_)
          | (refine st_str bz1 (u' := StrA.zero) rfl _ _ rfl rfl rfl ?_; intro W4 bz4 pg4; have hw4 := put_facts hw1 (by omega) pg4))
        have hres := res_str bz4
        refine bodyPost_ret (results_ctt rfl _ _ _ rfl hres) rfl ?_
        unfold StrD.feedD StrD.feedO
        rw [hE.out]
        exact ⟨StrA.zero, none, 0, rfl, rfl, StrF.zero, IntsF.nil, hw4⟩
  · have CV : Hid (∀ w1, Below w.heap.size w w1 → Calls Try.prog 11 #[u.v] w1 fun e1 w' => e1 = .returned (.bool false) ∧ Below w1.heap.size w1 w') := fun w1 hb => by
      have := st_Valid u w1 (hu.grow hb)
      rw [decide_eq_false hg] at this; exact this
    have hE : Hid (u.d.feedE e = 2) := by show _ = _; unfold StrD.feedE; rw [if_neg hg]
    clear hu he hg
    go_enter Try.func14, Try.ntmps14
    go_upto_region 1 with fail
    obtain ⟨bx0, be0, bz0, hb0, hs0⟩ := entry3 w u e _ rfl
    change Code.wp _ _ _ _ (((w.alloc (.cells u.cells.toArray 39)).alloc (.cells e.cells.toArray 33)).alloc (.cells StrA.zero.cells.toArray 39))
    generalize (((w.alloc (.cells u.cells.toArray 39)).alloc (.cells e.cells.toArray 33)).alloc (.cells StrA.zero.cells.toArray 39)) = W0 at bx0 be0 bz0 hb0 hs0 ⊢
    have BX0 := Lib.hid bx0
    have BE0 := Lib.hid be0
    have BZ0 := Lib.hid bz0
    have HB0 := Lib.hid hb0
    clear bx0 be0 bz0 hb0
    go_wp2_with (first
      | (refine ld_str BX0.out rfl _ rfl rfl ?_)
      | (go_at_call 11; (with_reducible refine (CV.out _ HB0.out).mono ?_); rintro e1 w1 ⟨rfl, hb1⟩; have bz1 := BZ0.out.keep hb1; have hw1 := below_then HB0.out hb1)
      | (refine st_str bz1 (u' := StrA.zero) rfl _ _ rfl rfl rfl ?_; intro W2 bz2 pg2; have hw2 := put_facts hw1 (by omega) pg2))
    have hres := res_str bz2
    refine bodyPost_ret (results_ctt rfl _ _ _ rfl hres) rfl ?_
    unfold StrD.feedD StrD.feedO
    rw [hE.out]
    exact ⟨StrA.zero, none, 0, rfl, rfl, StrF.zero, IntsF.nil, hw2⟩
end Go.Proofs.Ytgabfdappeakiaa
