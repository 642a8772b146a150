/- The errors of Feed of the reference of layer 42. -/
import Derived.Test.YtdmfafbfaelfnaaT9
import Derived.Test.YtdmfafbfaelfnaaTj
namespace Go.Proofs.Ytdmfafbfaelfnaa
open Go.RowKit

/-- A call hands back a stream, outputs and an error, in memory of whomever. -/
def RetFeedR (w : World) (d : StrD) (l : List Int) (E : Int) (e : Ending) (w' : World) : Prop := ∃ (u : StrA) (A : Option Addr) (c : Nat), e = .returned (.tuple #[u.v, .slice A l.length c, .int .i64 E]) ∧ u.d = d ∧ StrAt w' u ∧ Ints w' A l ∧ Below w.heap.size w w'
/-- The same load behind a guard. -/
theorem ld_evnetW {ops : Array Oper} {rest : List Oper} {o : Oper} {a : Act} {Q : Exit → Act → World → Prop} {w : World} {e : EvA} {g : Nat} (hb : EvBox w g e) (hw : Region.wanted o (yielded ops a.tmps) = true) (x : Operand) (ho : o.op = .load 27 x) (hx : a.eval x = .pointer (some ⟨g, 2, none⟩)) (h : wpList Try.prog ops Q rest (a.put o.dst (.agg e.netL.toArray)) w) : wpList Try.prog ops Q (o :: rest) a w := by
  obtain ⟨d, h1, h2⟩ := row_net
  exact BigFrame.wpList_want hw fun K hK => wp_load_mid _ x ho g 2 hx e.netL d (Box.range hb (evnet_in e)) h1 h2 size_net (hK _ _ h)
set_option maxRecDepth 100000 in
set_option maxHeartbeats 4000000 in
theorem r42_Feed_no1 (u : StrA) (e : EvA) (w : World) (hu : StrAt w u) (he : EvAt w e) (hne : u.d.feedE e ≠ 0) (hcase : ¬ u.d.Good ∨ e.kind ≠ 2) : Calls Try.prog 6 #[u.v, e.v] w (RetFeedR w (u.d.feedD e) (u.d.feedO e) (u.d.feedE e)) := by
  by_cases hg : ¬ u.d.Good
  · have CV : Hid (∀ w1, Below w.heap.size w w1 → Calls Try.prog 8 #[u.v] w1 fun e1 w' => e1 = .returned (.bool false) ∧ Below w1.heap.size w1 w') := fun w1 hb => by
      have := r42_Valid u w1 (hu.grow hb)
      rw [decide_eq_false hg] at this; exact this
    have HE : Hid (u.d.feedE e = 2) := by show _ = _; unfold StrD.feedE; rw [if_neg hg]
    rw [HE.out]
    clear hu he hg hne
    go_enter Try.func6, Try.ntmps6
    go_upto_region 1 with fail
    obtain ⟨bx0, be0, bz0, hb0, hs0⟩ := entry3 w u e _ rfl
    change Code.wp _ _ _ _ (((w.alloc (.cells u.cells.toArray 29)).alloc (.cells e.cells.toArray 31)).alloc (.cells StrA.zero.cells.toArray 29))
    generalize (((w.alloc (.cells u.cells.toArray 29)).alloc (.cells e.cells.toArray 31)).alloc (.cells StrA.zero.cells.toArray 29)) = W0 at bx0 be0 bz0 hb0 hs0 ⊢
    have BX0 := Lib.hid bx0
    have BE0 := Lib.hid be0
    have BZ0 := Lib.hid bz0
    have HB0 := Lib.hid hb0
    clear bx0 be0 bz0 hb0
    go_wp2_with (first
      | (refine ld_str BX0.out rfl _ rfl rfl ?_)
      | (go_at_call 8; (with_reducible refine (CV.out _ HB0.out).mono ?_); rintro e1 w1 ⟨rfl, hb1⟩; have bx1 := BX0.out.keep hb1; have be1 := BE0.out.keep hb1; have bz1 := BZ0.out.keep hb1; have hw1 := below_then HB0.out hb1; have hs1 := hb1.size; obtain ⟨⟨a1, a2, a3, a4⟩, ⟨a5, a6, a7, a8⟩, a9, a10, a11, a12⟩ := bx1.net; obtain ⟨r1, r2, r3, r4, r5⟩ := bx1.rest; obtain ⟨v1, v2, ⟨v3, v4, v5, v6⟩, v7, v8⟩ := be1.c)
      | (refine st_str bz1 (u' := StrA.zero) rfl _ _ rfl rfl rfl ?_; intro W9 bz9 pg9; have hw9 := put_facts hw1 (by omega) pg9))
    have hres := res_str bz9
    refine bodyPost_ret (results_ctt rfl _ _ _ rfl hres) rfl ?_
    unfold StrD.feedD StrD.feedO
    rw [HE.out]
    exact ⟨StrA.zero, none, 0, rfl, rfl, StrF.zero (b := 0) |>.at, Ints.nil, hw9⟩
  have hg := Classical.not_not.1 hg
  have CV : Hid (∀ w1, Below w.heap.size w w1 → Calls Try.prog 8 #[u.v] w1 fun e1 w' => e1 = .returned (.bool true) ∧ Below w1.heap.size w1 w') := fun w1 hb => by
    have := r42_Valid u w1 (hu.grow hb)
    rw [decide_eq_true hg] at this; exact this
  have HEE : Hid (u.d.feedE e = if e.kind = 1 then u.d.sampE e.x else if e.kind = 2 then u.d.chE e else 1) := by show _ = _; unfold StrD.feedE; rw [if_pos hg]
  by_cases hk1 : e.kind = 1
  · have HK := Lib.hid hk1
    by_cases hlong : e.x.length ≤ 4096
    · have hlo : (e.x.length : Int) ≤ 4096 := by omega
      have hfit : u.d.net.fit e.x = false := by
        rw [HEE.out, if_pos hk1] at hne
        unfold StrD.sampE at hne
        rw [if_pos hlong] at hne
        cases h : u.d.net.fit e.x with
        | false => rfl
        | true => rw [h] at hne; exact absurd rfl hne
      have CW : Hid (∀ w1, Below w.heap.size w w1 → Calls Try.prog 14 #[wordV u.d.net.d0 u.d.net.d1 u.d.net.d2 u.d.net.d3, .slice e.BA e.x.length e.bc] w1 fun e1 w' => e1 = .returned (.bool false) ∧ Below w1.heap.size w1 w') := fun w1 hb => by
        have := rf_Words u.d.net.d0 u.d.net.d1 u.d.net.d2 u.d.net.d3 e.BA e.x e.bc w1 he.n (he.x.grow hb)
        rw [show wordsB _ _ _ _ _ = false from hfit] at this; exact this
      have HE : Hid (u.d.feedE e = 17) := by show _ = _; rw [HEE.out, if_pos hk1]; unfold StrD.sampE; rw [if_pos hlong, hfit]; exact rfl
      rw [HE.out]
      clear hu he hg hne hk1 hfit hlong
      go_enter Try.func6, Try.ntmps6
      go_upto_region 1 with fail
      obtain ⟨bx0, be0, bz0, hb0, hs0⟩ := entry3 w u e _ rfl
      change Code.wp _ _ _ _ (((w.alloc (.cells u.cells.toArray 29)).alloc (.cells e.cells.toArray 31)).alloc (.cells StrA.zero.cells.toArray 29))
      generalize (((w.alloc (.cells u.cells.toArray 29)).alloc (.cells e.cells.toArray 31)).alloc (.cells StrA.zero.cells.toArray 29)) = W0 at bx0 be0 bz0 hb0 hs0 ⊢
      have BX0 := Lib.hid bx0
      have BE0 := Lib.hid be0
      have BZ0 := Lib.hid bz0
      have HB0 := Lib.hid hb0
      clear bx0 be0 bz0 hb0
      go_wp2_with (first
        | (refine ld_str BX0.out rfl _ rfl rfl ?_)
        | (go_at_call 8; (with_reducible refine (CV.out _ HB0.out).mono ?_); rintro e1 w1 ⟨rfl, hb1⟩; have bx1 := BX0.out.keep hb1; have be1 := BE0.out.keep hb1; have bz1 := BZ0.out.keep hb1; have hw1 := below_then HB0.out hb1; have hs1 := hb1.size; obtain ⟨⟨a1, a2, a3, a4⟩, ⟨a5, a6, a7, a8⟩, a9, a10, a11, a12⟩ := bx1.net; obtain ⟨r1, r2, r3, r4, r5⟩ := bx1.rest; obtain ⟨v1, v2, ⟨v3, v4, v5, v6⟩, v7, v8⟩ := be1.c; rw [HK.out] at v1)
        | (go_at_call 14; (with_reducible refine (CW.out _ hw1).mono ?_); rintro e2 w2 ⟨rfl, hb2⟩; have bx2 := bx1.keep hb2; have be2 := be1.keep hb2; have bz2 := bz1.keep hb2; have hw2 := below_then hw1 hb2; have hs2 := hb2.size; obtain ⟨⟨a1, a2, a3, a4⟩, ⟨a5, a6, a7, a8⟩, a9, a10, a11, a12⟩ := bx2.net; obtain ⟨r1, r2, r3, r4, r5⟩ := bx2.rest; obtain ⟨v1, v2, ⟨v3, v4, v5, v6⟩, v7, v8⟩ := be2.c; rw [HK.out] at v1)
        | (refine st_str bz2 (u' := StrA.zero) rfl _ _ rfl rfl rfl ?_; intro W9 bz9 pg9; have hw9 := put_facts hw2 (by omega) pg9))
      have hres := res_str bz9
      refine bodyPost_ret (results_ctt rfl _ _ _ rfl hres) rfl ?_
      unfold StrD.feedD StrD.feedO
      rw [HE.out]
      exact ⟨StrA.zero, none, 0, rfl, rfl, StrF.zero (b := 0) |>.at, Ints.nil, hw9⟩
    · have hlo : (4096 : Int) < (e.x.length : Int) := by omega
      have HE : Hid (u.d.feedE e = 4) := by show _ = _; rw [HEE.out, if_pos hk1]; unfold StrD.sampE; rw [if_neg hlong]
      rw [HE.out]
      clear hu he hg hne hk1 hlong
      go_enter Try.func6, Try.ntmps6
      go_upto_region 1 with fail
      obtain ⟨bx0, be0, bz0, hb0, hs0⟩ := entry3 w u e _ rfl
      change Code.wp _ _ _ _ (((w.alloc (.cells u.cells.toArray 29)).alloc (.cells e.cells.toArray 31)).alloc (.cells StrA.zero.cells.toArray 29))
      generalize (((w.alloc (.cells u.cells.toArray 29)).alloc (.cells e.cells.toArray 31)).alloc (.cells StrA.zero.cells.toArray 29)) = W0 at bx0 be0 bz0 hb0 hs0 ⊢
      have BX0 := Lib.hid bx0
      have BE0 := Lib.hid be0
      have BZ0 := Lib.hid bz0
      have HB0 := Lib.hid hb0
      clear bx0 be0 bz0 hb0
      go_wp2_with (first
        | (refine ld_str BX0.out rfl _ rfl rfl ?_)
        | (go_at_call 8; (with_reducible refine (CV.out _ HB0.out).mono ?_); rintro e1 w1 ⟨rfl, hb1⟩; have bx1 := BX0.out.keep hb1; have be1 := BE0.out.keep hb1; have bz1 := BZ0.out.keep hb1; have hw1 := below_then HB0.out hb1; have hs1 := hb1.size; obtain ⟨⟨a1, a2, a3, a4⟩, ⟨a5, a6, a7, a8⟩, a9, a10, a11, a12⟩ := bx1.net; obtain ⟨r1, r2, r3, r4, r5⟩ := bx1.rest; obtain ⟨v1, v2, ⟨v3, v4, v5, v6⟩, v7, v8⟩ := be1.c; rw [HK.out] at v1)
        | (refine st_str bz1 (u' := StrA.zero) rfl _ _ rfl rfl rfl ?_; intro W9 bz9 pg9; have hw9 := put_facts hw1 (by omega) pg9))
      have hres := res_str bz9
      refine bodyPost_ret (results_ctt rfl _ _ _ rfl hres) rfl ?_
      unfold StrD.feedD StrD.feedO
      rw [HE.out]
      exact ⟨StrA.zero, none, 0, rfl, rfl, StrF.zero (b := 0) |>.at, Ints.nil, hw9⟩
  have hk2 : ¬ e.kind = 2 := by
    rcases hcase with h | h
    · exact absurd hg h
    · exact h
  have HE : Hid (u.d.feedE e = 1) := by show _ = _; rw [HEE.out, if_neg hk1, if_neg hk2]
  rw [HE.out]
  clear hu he hg hne hcase
  go_enter Try.func6, Try.ntmps6
  go_upto_region 1 with fail
  obtain ⟨bx0, be0, bz0, hb0, hs0⟩ := entry3 w u e _ rfl
  change Code.wp _ _ _ _ (((w.alloc (.cells u.cells.toArray 29)).alloc (.cells e.cells.toArray 31)).alloc (.cells StrA.zero.cells.toArray 29))
  generalize (((w.alloc (.cells u.cells.toArray 29)).alloc (.cells e.cells.toArray 31)).alloc (.cells StrA.zero.cells.toArray 29)) = W0 at bx0 be0 bz0 hb0 hs0 ⊢
  have BX0 := Lib.hid bx0
  have BE0 := Lib.hid be0
  have BZ0 := Lib.hid bz0
  have HB0 := Lib.hid hb0
  clear bx0 be0 bz0 hb0
  go_wp2_with (first
    | (refine ld_str BX0.out rfl _ rfl rfl ?_)
    | (go_at_call 8; (with_reducible refine (CV.out _ HB0.out).mono ?_); rintro e1 w1 ⟨rfl, hb1⟩; have bx1 := BX0.out.keep hb1; have be1 := BE0.out.keep hb1; have bz1 := BZ0.out.keep hb1; have hw1 := below_then HB0.out hb1; have hs1 := hb1.size; obtain ⟨⟨a1, a2, a3, a4⟩, ⟨a5, a6, a7, a8⟩, a9, a10, a11, a12⟩ := bx1.net; obtain ⟨r1, r2, r3, r4, r5⟩ := bx1.rest; obtain ⟨v1, v2, ⟨v3, v4, v5, v6⟩, v7, v8⟩ := be1.c)
    | (refine st_str bz1 (u' := StrA.zero) rfl _ _ rfl rfl rfl ?_; intro W9 bz9 pg9; have hw9 := put_facts hw1 (by omega) pg9))
  have hres := res_str bz9
  refine bodyPost_ret (results_ctt rfl _ _ _ rfl hres) rfl ?_
  unfold StrD.feedD StrD.feedO
  rw [HE.out]
  exact ⟨StrA.zero, none, 0, rfl, rfl, StrF.zero (b := 0) |>.at, Ints.nil, hw9⟩
end Go.Proofs.Ytdmfafbfaelfnaa
