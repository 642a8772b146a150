/- The walk of the law StreamRefuses. -/
import Derived.Test.YtdmfafbfaelfnaaTo
import Derived.Test.YtdmfafbfaelfnaaTs
import Derived.Test.YtdmfafbfaelfnaaTq
import Derived.Test.YtdmfafbfaelfnaaTj
namespace Go.Proofs.Ytdmfafbfaelfnaa
open Go.RowKit

theorem EvBox.lens {w : World} {g : Nat} {e : EvA} (h : EvBox w g e) : w.cell? ⟨g, 1, none⟩ = some (.slice e.BA e.x.length e.bc) ∧ w.cell? ⟨g, 11, none⟩ = some (.slice e.NA e.net.ns.length e.nc) ∧ w.cell? ⟨g, 12, none⟩ = some (.slice e.XA e.net.nx.length e.xc) :=
  ⟨h.2.1 1, h.2.1 11, h.2.1 12⟩
/-- What both functions Feed hand back. -/
def FeedR (D : StrD) (O : List Int) (E : Int) (w : World) (e : Ending) (w' : World) : Prop := ∃ (u : StrA) (A : Option Addr) (c : Nat), e = .returned (.tuple #[u.v, .slice A O.length c, .int .i64 E]) ∧ u.d = D ∧ StrAt w' u ∧ Ints w' A O ∧ Below w.heap.size w w'
theorem feedM_R {w w' : World} {u : StrA} {e0 : EvA} {D : StrD} {O : List Int} {E : Int} {e : Ending} (h : RetFeedM w u e0 D O E e w') : FeedR D O E w e w' := by
  obtain ⟨us, A, c, he, h1, h2, h3, h4, h5⟩ := h
  exact ⟨us, A, c, he, h1, h3, h4.1, h5⟩
theorem feed_R {w w' : World} {D : StrD} {O : List Int} {E : Int} {e : Ending} (h : RetFeed w D O E e w') : FeedR D O E w e w' := by
  obtain ⟨us, A, c, he, h1, h2, h3, h4⟩ := h
  exact ⟨us, A, c, he, h1, h2.at, h3.1, h4⟩
theorem qld_mid {P : Program} {ops : Array Oper} {rest : List Oper} {o : Oper} {a : Act} {C : World → Prop} {Q : Act → Prop} (hw : Region.wanted o (yielded ops a.tmps) = true) (ty : TypeId) (x : Operand) (ho : o.op = .load ty x) (b k : Nat) (hx : a.eval x = .pointer (some ⟨b, k, none⟩)) (cs : List Value) (d : TypeDesc) (hc : ∀ w, C w → w.rangeAt b k cs)
    (hu : P.underlying ty = some d) (hd : d.isRow = true) (hi : (P.info? ty).map (·.size) = some cs.length) (h : wpQuiet P ops C Q rest (a.put o.dst (.agg cs.toArray))) : wpQuiet P ops C Q (o :: rest) a :=
  BigFrame.wpQuiet_want hw fun K hK => ⟨_, fun w hw' => by
    unfold Oper.quietAt execOp
    simp only [ho, hx, Instr.loadAt, Instr.sureAddr, Sem.run_bind, Sem.run_pure, Result.andThen_ok, run_loadVar_mid w b k ty cs d (hc w hw') hu hd hi]
    exact ⟨rfl, rfl⟩, hK _ h⟩
theorem qld_str {ops : Array Oper} {rest : List Oper} {o : Oper} {a : Act} {Q : Act → Prop} {W : World} {u : StrA} {g : Nat} (hb : StrBox W g u) (hw : Region.wanted o (yielded ops a.tmps) = true) (x : Operand) (ho : o.op = .load 29 x) (hx : a.eval x = .pointer (some ⟨g, 0, none⟩)) (h : wpQuiet Try.prog ops (fun w' => ∃ n : Ext W, w' = n.to) Q rest (a.put o.dst u.v)) : wpQuiet Try.prog ops (fun w' => ∃ n : Ext W, w' = n.to) Q (o :: rest) a := by
  obtain ⟨d, h1, h2⟩ := row_str
  exact qld_mid hw _ x ho g 0 hx u.cells d (fun w hw' => by obtain ⟨n, rfl⟩ := hw'; exact Box.range (hb.keep n.below).box (str_in u)) h1 h2 size_str h
theorem entrySE (w : World) (u : StrA) (e : EvA) : ∀ W, W = ((w.alloc (.cells u.cells.toArray 29)).alloc (.cells e.cells.toArray 31)) →
    StrBox W w.heap.size u ∧ EvBox W (w.heap.size + 1) e ∧ Below w.heap.size w W ∧ w.heap.size + 2 ≤ W.heap.size := fun W hW => by
  subst hW
  exact ⟨Box.alloc (Box.new rfl) _, Box.new (by simp), ((Below.refl w.heap.size w).alloc (Nat.le_refl _) _).alloc (by simp) _, by simp⟩
set_option maxRecDepth 100000 in
set_option maxHeartbeats 16000000 in
theorem law_StreamRefuses (u : StrA) (e : EvA) (w : World) (hu : StrAt w u) (he : EvAt w e) : Calls Try.prog 3 #[u.v, e.v] w (BoolBw w true) := by
  obtain ⟨n0, hn0⟩ : ∃ n, u.d.net.ns.length = n := ⟨_, rfl⟩
  have HN0 := Lib.hid hn0
  clear hn0
  obtain ⟨n1, hn1⟩ : ∃ n, u.d.old.ns.length = n := ⟨_, rfl⟩
  have HN1 := Lib.hid hn1
  clear hn1
  obtain ⟨n2, hn2⟩ : ∃ n, e.net.ns.length = n := ⟨_, rfl⟩
  have HN2 := Lib.hid hn2
  clear hn2
  obtain ⟨n3, hn3⟩ : ∃ n, u.d.s.length = n := ⟨_, rfl⟩
  have HN3 := Lib.hid hn3
  clear hn3
  obtain ⟨n4, hn4⟩ : ∃ n, u.d.f.length = n := ⟨_, rfl⟩
  have HN4 := Lib.hid hn4
  clear hn4
  obtain ⟨n5, hn5⟩ : ∃ n, e.x.length = n := ⟨_, rfl⟩
  have HN5 := Lib.hid hn5
  clear hn5
  obtain ⟨n6, hn6⟩ : ∃ n, u.d.net.nx.length = n := ⟨_, rfl⟩
  have HN6 := Lib.hid hn6
  clear hn6
  obtain ⟨n7, hn7⟩ : ∃ n, u.d.old.nx.length = n := ⟨_, rfl⟩
  have HN7 := Lib.hid hn7
  clear hn7
  obtain ⟨n8, hn8⟩ : ∃ n, e.net.nx.length = n := ⟨_, rfl⟩
  have HN8 := Lib.hid hn8
  clear hn8
  by_cases h0 : (n0 : Int) ≤ 8
  rotate_left
  · have h0 : (8 : Int) < (n0 : Int) := Int.not_le.1 h0
    have d0 : decide ((8 : Int) < (n0 : Int)) = true := decide_eq_true h0
    clear hu he
    go_enter Try.func3, Try.ntmps3
    go_upto_region 1 with fail
    obtain ⟨bx0, be0, hb0, hs0⟩ := entrySE w u e _ rfl
    change Code.wp _ _ _ _ ((w.alloc (.cells u.cells.toArray 29)).alloc (.cells e.cells.toArray 31))
    generalize ((w.alloc (.cells u.cells.toArray 29)).alloc (.cells e.cells.toArray 31)) = W0 at bx0 be0 hb0 hs0 ⊢
    obtain ⟨-, -, -, a10, a11, -⟩ := bx0.net
    obtain ⟨-, -, -, o10, o11, -⟩ := bx0.old
    obtain ⟨r1, r2, -, -, -⟩ := bx0.rest
    obtain ⟨v2, v11, v12⟩ := be0.lens
    rw [HN0.out] at a10
    rw [HN1.out] at o10
    rw [HN2.out] at v11
    rw [HN3.out] at r1
    rw [HN4.out] at r2
    rw [HN5.out] at v2
    rw [HN6.out] at a11
    rw [HN7.out] at o11
    rw [HN8.out] at v12
    go_wp2_with (go_at_call 4; refine (known42 _).mono ?_; rintro e1 w1 ⟨rfl, hb1⟩; have hw1 := below_then hb0 hb1)
    go_ret
    exact ⟨rfl, hw1⟩
  have d0 : decide ((8 : Int) < (n0 : Int)) = false := decide_eq_false (Int.not_lt.2 h0)
  by_cases h1 : (n1 : Int) ≤ 8
  rotate_left
  · have h1 : (8 : Int) < (n1 : Int) := Int.not_le.1 h1
    have d1 : decide ((8 : Int) < (n1 : Int)) = true := decide_eq_true h1
    clear hu he
    go_enter Try.func3, Try.ntmps3
    go_upto_region 1 with fail
    obtain ⟨bx0, be0, hb0, hs0⟩ := entrySE w u e _ rfl
    change Code.wp _ _ _ _ ((w.alloc (.cells u.cells.toArray 29)).alloc (.cells e.cells.toArray 31))
    generalize ((w.alloc (.cells u.cells.toArray 29)).alloc (.cells e.cells.toArray 31)) = W0 at bx0 be0 hb0 hs0 ⊢
    obtain ⟨-, -, -, a10, a11, -⟩ := bx0.net
    obtain ⟨-, -, -, o10, o11, -⟩ := bx0.old
    obtain ⟨r1, r2, -, -, -⟩ := bx0.rest
    obtain ⟨v2, v11, v12⟩ := be0.lens
    rw [HN0.out] at a10
    rw [HN1.out] at o10
    rw [HN2.out] at v11
    rw [HN3.out] at r1
    rw [HN4.out] at r2
    rw [HN5.out] at v2
    rw [HN6.out] at a11
    rw [HN7.out] at o11
    rw [HN8.out] at v12
    go_wp2_with (go_at_call 4; refine (known42 _).mono ?_; rintro e1 w1 ⟨rfl, hb1⟩; have hw1 := below_then hb0 hb1)
    go_ret
    exact ⟨rfl, hw1⟩
  have d1 : decide ((8 : Int) < (n1 : Int)) = false := decide_eq_false (Int.not_lt.2 h1)
  by_cases h2 : (n2 : Int) ≤ 8
  rotate_left
  · have h2 : (8 : Int) < (n2 : Int) := Int.not_le.1 h2
    have d2 : decide ((8 : Int) < (n2 : Int)) = true := decide_eq_true h2
    clear hu he
    go_enter Try.func3, Try.ntmps3
    go_upto_region 1 with fail
    obtain ⟨bx0, be0, hb0, hs0⟩ := entrySE w u e _ rfl
    change Code.wp _ _ _ _ ((w.alloc (.cells u.cells.toArray 29)).alloc (.cells e.cells.toArray 31))
    generalize ((w.alloc (.cells u.cells.toArray 29)).alloc (.cells e.cells.toArray 31)) = W0 at bx0 be0 hb0 hs0 ⊢
    obtain ⟨-, -, -, a10, a11, -⟩ := bx0.net
    obtain ⟨-, -, -, o10, o11, -⟩ := bx0.old
    obtain ⟨r1, r2, -, -, -⟩ := bx0.rest
    obtain ⟨v2, v11, v12⟩ := be0.lens
    rw [HN0.out] at a10
    rw [HN1.out] at o10
    rw [HN2.out] at v11
    rw [HN3.out] at r1
    rw [HN4.out] at r2
    rw [HN5.out] at v2
    rw [HN6.out] at a11
    rw [HN7.out] at o11
    rw [HN8.out] at v12
    go_wp2_with (go_at_call 4; refine (known42 _).mono ?_; rintro e1 w1 ⟨rfl, hb1⟩; have hw1 := below_then hb0 hb1)
    go_ret
    exact ⟨rfl, hw1⟩
  have d2 : decide ((8 : Int) < (n2 : Int)) = false := decide_eq_false (Int.not_lt.2 h2)
  by_cases h3 : (n3 : Int) ≤ 20
  rotate_left
  · have h3 : (20 : Int) < (n3 : Int) := Int.not_le.1 h3
    have d3 : decide ((20 : Int) < (n3 : Int)) = true := decide_eq_true h3
    clear hu he
    go_enter Try.func3, Try.ntmps3
    go_upto_region 1 with fail
    obtain ⟨bx0, be0, hb0, hs0⟩ := entrySE w u e _ rfl
    change Code.wp _ _ _ _ ((w.alloc (.cells u.cells.toArray 29)).alloc (.cells e.cells.toArray 31))
    generalize ((w.alloc (.cells u.cells.toArray 29)).alloc (.cells e.cells.toArray 31)) = W0 at bx0 be0 hb0 hs0 ⊢
    obtain ⟨-, -, -, a10, a11, -⟩ := bx0.net
    obtain ⟨-, -, -, o10, o11, -⟩ := bx0.old
    obtain ⟨r1, r2, -, -, -⟩ := bx0.rest
    obtain ⟨v2, v11, v12⟩ := be0.lens
    rw [HN0.out] at a10
    rw [HN1.out] at o10
    rw [HN2.out] at v11
    rw [HN3.out] at r1
    rw [HN4.out] at r2
    rw [HN5.out] at v2
    rw [HN6.out] at a11
    rw [HN7.out] at o11
    rw [HN8.out] at v12
    go_wp2_with (go_at_call 4; refine (known42 _).mono ?_; rintro e1 w1 ⟨rfl, hb1⟩; have hw1 := below_then hb0 hb1)
    go_ret
    exact ⟨rfl, hw1⟩
  have d3 : decide ((20 : Int) < (n3 : Int)) = false := decide_eq_false (Int.not_lt.2 h3)
  by_cases h4 : (n4 : Int) ≤ 20
  rotate_left
  · have h4 : (20 : Int) < (n4 : Int) := Int.not_le.1 h4
    have d4 : decide ((20 : Int) < (n4 : Int)) = true := decide_eq_true h4
    clear hu he
    go_enter Try.func3, Try.ntmps3
    go_upto_region 1 with fail
    obtain ⟨bx0, be0, hb0, hs0⟩ := entrySE w u e _ rfl
    change Code.wp _ _ _ _ ((w.alloc (.cells u.cells.toArray 29)).alloc (.cells e.cells.toArray 31))
    generalize ((w.alloc (.cells u.cells.toArray 29)).alloc (.cells e.cells.toArray 31)) = W0 at bx0 be0 hb0 hs0 ⊢
    obtain ⟨-, -, -, a10, a11, -⟩ := bx0.net
    obtain ⟨-, -, -, o10, o11, -⟩ := bx0.old
    obtain ⟨r1, r2, -, -, -⟩ := bx0.rest
    obtain ⟨v2, v11, v12⟩ := be0.lens
    rw [HN0.out] at a10
    rw [HN1.out] at o10
    rw [HN2.out] at v11
    rw [HN3.out] at r1
    rw [HN4.out] at r2
    rw [HN5.out] at v2
    rw [HN6.out] at a11
    rw [HN7.out] at o11
    rw [HN8.out] at v12
    go_wp2_with (go_at_call 4; refine (known42 _).mono ?_; rintro e1 w1 ⟨rfl, hb1⟩; have hw1 := below_then hb0 hb1)
    go_ret
    exact ⟨rfl, hw1⟩
  have d4 : decide ((20 : Int) < (n4 : Int)) = false := decide_eq_false (Int.not_lt.2 h4)
  by_cases h5 : (n5 : Int) ≤ 30
  rotate_left
  · have h5 : (30 : Int) < (n5 : Int) := Int.not_le.1 h5
    have d5 : decide ((30 : Int) < (n5 : Int)) = true := decide_eq_true h5
    clear hu he
    go_enter Try.func3, Try.ntmps3
    go_upto_region 1 with fail
    obtain ⟨bx0, be0, hb0, hs0⟩ := entrySE w u e _ rfl
    change Code.wp _ _ _ _ ((w.alloc (.cells u.cells.toArray 29)).alloc (.cells e.cells.toArray 31))
    generalize ((w.alloc (.cells u.cells.toArray 29)).alloc (.cells e.cells.toArray 31)) = W0 at bx0 be0 hb0 hs0 ⊢
    obtain ⟨-, -, -, a10, a11, -⟩ := bx0.net
    obtain ⟨-, -, -, o10, o11, -⟩ := bx0.old
    obtain ⟨r1, r2, -, -, -⟩ := bx0.rest
    obtain ⟨v2, v11, v12⟩ := be0.lens
    rw [HN0.out] at a10
    rw [HN1.out] at o10
    rw [HN2.out] at v11
    rw [HN3.out] at r1
    rw [HN4.out] at r2
    rw [HN5.out] at v2
    rw [HN6.out] at a11
    rw [HN7.out] at o11
    rw [HN8.out] at v12
    go_wp2_with (go_at_call 4; refine (known42 _).mono ?_; rintro e1 w1 ⟨rfl, hb1⟩; have hw1 := below_then hb0 hb1)
    go_ret
    exact ⟨rfl, hw1⟩
  have d5 : decide ((30 : Int) < (n5 : Int)) = false := decide_eq_false (Int.not_lt.2 h5)
  by_cases h6 : (n6 : Int) ≤ 20
  rotate_left
  · have h6 : (20 : Int) < (n6 : Int) := Int.not_le.1 h6
    have d6 : decide ((20 : Int) < (n6 : Int)) = true := decide_eq_true h6
    clear hu he
    go_enter Try.func3, Try.ntmps3
    go_upto_region 1 with fail
    obtain ⟨bx0, be0, hb0, hs0⟩ := entrySE w u e _ rfl
    change Code.wp _ _ _ _ ((w.alloc (.cells u.cells.toArray 29)).alloc (.cells e.cells.toArray 31))
    generalize ((w.alloc (.cells u.cells.toArray 29)).alloc (.cells e.cells.toArray 31)) = W0 at bx0 be0 hb0 hs0 ⊢
    obtain ⟨-, -, -, a10, a11, -⟩ := bx0.net
    obtain ⟨-, -, -, o10, o11, -⟩ := bx0.old
    obtain ⟨r1, r2, -, -, -⟩ := bx0.rest
    obtain ⟨v2, v11, v12⟩ := be0.lens
    rw [HN0.out] at a10
    rw [HN1.out] at o10
    rw [HN2.out] at v11
    rw [HN3.out] at r1
    rw [HN4.out] at r2
    rw [HN5.out] at v2
    rw [HN6.out] at a11
    rw [HN7.out] at o11
    rw [HN8.out] at v12
    go_wp2_with (go_at_call 4; refine (known42 _).mono ?_; rintro e1 w1 ⟨rfl, hb1⟩; have hw1 := below_then hb0 hb1)
    go_ret
    exact ⟨rfl, hw1⟩
  have d6 : decide ((20 : Int) < (n6 : Int)) = false := decide_eq_false (Int.not_lt.2 h6)
  by_cases h7 : (n7 : Int) ≤ 20
  rotate_left
  · have h7 : (20 : Int) < (n7 : Int) := Int.not_le.1 h7
    have d7 : decide ((20 : Int) < (n7 : Int)) = true := decide_eq_true h7
    clear hu he
    go_enter Try.func3, Try.ntmps3
    go_upto_region 1 with fail
    obtain ⟨bx0, be0, hb0, hs0⟩ := entrySE w u e _ rfl
    change Code.wp _ _ _ _ ((w.alloc (.cells u.cells.toArray 29)).alloc (.cells e.cells.toArray 31))
    generalize ((w.alloc (.cells u.cells.toArray 29)).alloc (.cells e.cells.toArray 31)) = W0 at bx0 be0 hb0 hs0 ⊢
    obtain ⟨-, -, -, a10, a11, -⟩ := bx0.net
    obtain ⟨-, -, -, o10, o11, -⟩ := bx0.old
    obtain ⟨r1, r2, -, -, -⟩ := bx0.rest
    obtain ⟨v2, v11, v12⟩ := be0.lens
    rw [HN0.out] at a10
    rw [HN1.out] at o10
    rw [HN2.out] at v11
    rw [HN3.out] at r1
    rw [HN4.out] at r2
    rw [HN5.out] at v2
    rw [HN6.out] at a11
    rw [HN7.out] at o11
    rw [HN8.out] at v12
    go_wp2_with (go_at_call 4; refine (known42 _).mono ?_; rintro e1 w1 ⟨rfl, hb1⟩; have hw1 := below_then hb0 hb1)
    go_ret
    exact ⟨rfl, hw1⟩
  have d7 : decide ((20 : Int) < (n7 : Int)) = false := decide_eq_false (Int.not_lt.2 h7)
  by_cases h8 : (n8 : Int) ≤ 20
  rotate_left
  · have h8 : (20 : Int) < (n8 : Int) := Int.not_le.1 h8
    have d8 : decide ((20 : Int) < (n8 : Int)) = true := decide_eq_true h8
    clear hu he
    go_enter Try.func3, Try.ntmps3
    go_upto_region 1 with fail
    obtain ⟨bx0, be0, hb0, hs0⟩ := entrySE w u e _ rfl
    change Code.wp _ _ _ _ ((w.alloc (.cells u.cells.toArray 29)).alloc (.cells e.cells.toArray 31))
    generalize ((w.alloc (.cells u.cells.toArray 29)).alloc (.cells e.cells.toArray 31)) = W0 at bx0 be0 hb0 hs0 ⊢
    obtain ⟨-, -, -, a10, a11, -⟩ := bx0.net
    obtain ⟨-, -, -, o10, o11, -⟩ := bx0.old
    obtain ⟨r1, r2, -, -, -⟩ := bx0.rest
    obtain ⟨v2, v11, v12⟩ := be0.lens
    rw [HN0.out] at a10
    rw [HN1.out] at o10
    rw [HN2.out] at v11
    rw [HN3.out] at r1
    rw [HN4.out] at r2
    rw [HN5.out] at v2
    rw [HN6.out] at a11
    rw [HN7.out] at o11
    rw [HN8.out] at v12
    go_wp2_with (go_at_call 4; refine (known42 _).mono ?_; rintro e1 w1 ⟨rfl, hb1⟩; have hw1 := below_then hb0 hb1)
    go_ret
    exact ⟨rfl, hw1⟩
  have d8 : decide ((20 : Int) < (n8 : Int)) = false := decide_eq_false (Int.not_lt.2 h8)
  obtain ⟨D, hD⟩ : ∃ D, u.d.feedD e = D := ⟨_, rfl⟩
  obtain ⟨O, hO⟩ : ∃ O, u.d.feedO e = O := ⟨_, rfl⟩
  obtain ⟨E, hE⟩ : ∃ E, u.d.feedE e = E := ⟨_, rfl⟩
  obtain ⟨V, hV⟩ : ∃ V, decide u.d.Good = V := ⟨_, rfl⟩
  have CA : Hid (∀ w1, Below w.heap.size w w1 → Calls Try.prog 5 #[u.v, e.v] w1 (FeedR D O E w1)) := fun w1 hb => by
    have := st_Feed u e w1 (hu.grow hb) (he.grow hb)
    rw [hD, hO, hE] at this
    exact this.mono fun _ _ h => feed_R h
  have CB : Hid (∀ w1, Below w.heap.size w w1 → Calls Try.prog 6 #[u.v, e.v] w1 (FeedR D O E w1)) := fun w1 hb => by
    have := r42_Feed u e w1 (hu.grow hb) (he.grow hb)
    rw [hD, hO, hE] at this
    exact this.mono fun _ _ h => feedM_R h
  have CV : Hid (∀ w1, Below w.heap.size w w1 → Calls Try.prog 7 #[u.v] w1 fun e1 w' => e1 = .returned (.bool V) ∧ Below w1.heap.size w1 w') := fun w1 hb => by
    have := st_Valid u w1 (hu.grow hb)
    rw [hV] at this; exact this
  have CW : Hid (∀ w1, Below w.heap.size w w1 → Calls Try.prog 8 #[u.v] w1 fun e1 w' => e1 = .returned (.bool V) ∧ Below w1.heap.size w1 w') := fun w1 hb => by
    have := r42_Valid u w1 (hu.grow hb)
    rw [hV] at this; exact this
  have hsm := feedD_small u.d e
  have hos := feedO_small u.d e
  rw [hD] at hsm
  rw [hO] at hos
  have HSM := Lib.hid hsm
  have HOS := Lib.hid hos
  have HU := Lib.hid hu
  have HE := Lib.hid he
  clear hu he hD hO hE hV hsm hos
  go_enter Try.func3, Try.ntmps3
  go_upto_region 1 with fail
  obtain ⟨bx0, be0, hb0, hs0⟩ := entrySE w u e _ rfl
  change Code.wp _ _ _ _ ((w.alloc (.cells u.cells.toArray 29)).alloc (.cells e.cells.toArray 31))
  generalize ((w.alloc (.cells u.cells.toArray 29)).alloc (.cells e.cells.toArray 31)) = W0 at bx0 be0 hb0 hs0 ⊢
  obtain ⟨-, -, -, a10, a11, -⟩ := bx0.net
  obtain ⟨-, -, -, o10, o11, -⟩ := bx0.old
  obtain ⟨r1, r2, -, -, -⟩ := bx0.rest
  obtain ⟨v2, v11, v12⟩ := be0.lens
  rw [HN0.out] at a10
  rw [HN1.out] at o10
  rw [HN2.out] at v11
  rw [HN3.out] at r1
  rw [HN4.out] at r2
  rw [HN5.out] at v2
  rw [HN6.out] at a11
  rw [HN7.out] at o11
  rw [HN8.out] at v12
  have HW0 := Lib.hid hb0
  have BX0 := Lib.hid bx0
  have BE0 := Lib.hid be0
  have CA0 : Hid (∀ w1, Below W0.heap.size W0 w1 → Calls Try.prog 5 #[u.v, e.v] w1 (FeedR D O E w1)) := fun w1 hb => CA.out w1 (below_then HW0.out hb)
  clear bx0 be0 hb0
  go_upto_region 3 with fail
  clear a10 a11 o10 o11 r1 r2 v2 v11 v12
  go_upto_region 4 with (first
    | ((with_reducible show wpList _ _ _ (Oper.mk _ (.load _ _) _ _ _ _ :: _) _ _); first | (refine ld_str BX0.out rfl _ rfl rfl ?_) | (refine ld_ev BE0.out rfl _ rfl rfl ?_))
    | (go_at_call 5; (with_reducible refine (CA0.out _ (Below.refl _ _)).mono ?_); rintro e1 w1 ⟨us1, A1, c1, rfl, hd1, hs1, hi1, hb1⟩)
    | ((with_reducible show wpList _ _ _ (Oper.mk _ (.store _ _ _) _ _ _ _ :: _) _ _); refine st_str (w := w1.alloc (.cells StrA.zero.cells.toArray 29)) (g := w1.heap.size) (u := StrA.zero) (u' := us1) (Box.new rfl) rfl _ _ rfl rfl rfl ?_; intro W1 bg1 pg1))
  have hal1 := put_facts ((Below.refl w1.heap.size w1).alloc (Nat.le_refl _) (.cells StrA.zero.cells.toArray 29)) (Nat.le_refl _) pg1
  have HB1 := Lib.hid (below_then hb1 hal1)
  have HW1 := Lib.hid (below_then HW0.out HB1.out)
  have HG1 := Lib.hid bg1
  have HS1 := Lib.hid (hs1.grow hal1)
  have HI1 := Lib.hid (hi1.grow hal1)
  have HD1 := Lib.hid hd1
  have BX1 := Lib.hid (BX0.out.keep HB1.out)
  have BE1 := Lib.hid (BE0.out.keep HB1.out)
  have CB1 : Hid (∀ w1, Below W1.heap.size W1 w1 → Calls Try.prog 6 #[u.v, e.v] w1 (FeedR D O E w1)) := fun w1 hb => CB.out w1 (below_then HW1.out hb)
  clear hal1 bg1 hs1 hi1 hd1 hb1 pg1
  go_upto_region 5 with (first
    | ((with_reducible show wpList _ _ _ (Oper.mk _ (.load _ _) _ _ _ _ :: _) _ _); first | (refine ld_str BX1.out rfl _ rfl rfl ?_) | (refine ld_ev BE1.out rfl _ rfl rfl ?_))
    | (go_at_call 6; (with_reducible refine (CB1.out _ (Below.refl _ _)).mono ?_); rintro e1 w2 ⟨us2, A2, c2, rfl, hd2, hs2, hi2, hb2⟩)
    | ((with_reducible show wpList _ _ _ (Oper.mk _ (.store _ _ _) _ _ _ _ :: _) _ _); refine st_str (w := w2.alloc (.cells StrA.zero.cells.toArray 29)) (g := w2.heap.size) (u := StrA.zero) (u' := us2) (Box.new rfl) rfl _ _ rfl rfl rfl ?_; intro W2 bg2 pg2))
  have hal2 := put_facts ((Below.refl w2.heap.size w2).alloc (Nat.le_refl _) (.cells StrA.zero.cells.toArray 29)) (Nat.le_refl _) pg2
  have HB2 := Lib.hid (below_then hb2 hal2)
  have HW2 := Lib.hid (below_then HW1.out HB2.out)
  have HG2 := Lib.hid bg2
  have HS2 := Lib.hid (hs2.grow hal2)
  have HI2 := Lib.hid (hi2.grow hal2)
  have HD2 := Lib.hid hd2
  have BX2 := Lib.hid (BX1.out.keep HB2.out)
  have HG3 := Lib.hid (HG1.out.keep HB2.out)
  have HS3 := Lib.hid (HS1.out.grow HB2.out)
  have HI3 := Lib.hid (HI1.out.grow HB2.out)
  clear hal2 bg2 hs2 hi2 hd2 hb2 pg2
  have HDD : Hid (us2.d = us1.d) := HD2.out.trans HD1.out.symm
  have hou : O.length ≤ 1000000 := by have := HOS.out; have := HN5.out; omega
  have b1 : us1.d.net.nx.length ≤ 1000000 := by rw [HD1.out]; have := HSM.out; omega
  have b2 : us1.d.old.nx.length ≤ 1000000 := by rw [HD1.out]; have := HSM.out; omega
  have b3 : us1.d.s.length ≤ 1000000 := by rw [HD1.out]; have := HSM.out; omega
  have b4 : us1.d.f.length ≤ 1000000 := by rw [HD1.out]; have := HSM.out; omega
  have CS : Hid (∀ w1, Below W2.heap.size W2 w1 → Calls Try.prog 9 #[us1.v, us2.v] w1 fun e1 w' => e1 = .returned (.bool true) ∧ Below w1.heap.size w1 w') := fun w1 hb => r42_Same us1 us2 w1 HDD.out (HS3.out.grow hb) (HS2.out.grow hb) b1 b2 b3 b4
  have CI : Hid (∀ w1, Below W2.heap.size W2 w1 → Calls Try.prog 10 #[.slice A1 O.length c1, .slice A2 O.length c2] w1 fun e1 w' => e1 = .returned (.bool true) ∧ Below w1.heap.size w1 w') := fun w1 hb => rf_SameN A1 A2 O O c1 c2 _ _ w1 rfl rfl hou rfl (HI3.out.grow hb) (HI2.out.grow hb)
  have CV2 : Hid (∀ w1, Below W2.heap.size W2 w1 → Calls Try.prog 7 #[u.v] w1 fun e1 w' => e1 = .returned (.bool V) ∧ Below w1.heap.size w1 w') := fun w1 hb => CV.out w1 (below_then HW2.out hb)
  have CW2 : Hid (∀ w1, Below W2.heap.size W2 w1 → Calls Try.prog 8 #[u.v] w1 fun e1 w' => e1 = .returned (.bool V) ∧ Below w1.heap.size w1 w') := fun w1 hb => CW.out w1 (below_then HW2.out hb)
  clear b1 b2 b3 b4 hou CA CB CV CW CA0 CB1 BX0 BE0 BX1 BE1 HS1 HS2 HS3 HI1 HI2 HI3 HSM HOS HU HE
  clear h0 h1 h2 h3 h4 h5 h6 h7 h8 d0 d1 d2 d3 d4 d5 d6 d7 d8
  go_wp2_with fail
  refine wp_region_ext (by kernel_rfl) (by kernel_rfl) ?_
  repeat (first
    | ((with_reducible show wpQuiet _ _ _ _ (Oper.mk _ (.load _ _) _ _ _ _ :: _) _); (first | (refine qld_str BX2.out rfl _ rfl rfl ?_) | (refine qld_str HG3.out rfl _ rfl rfl ?_) | (refine qld_str HG2.out rfl _ rfl rfl ?_)); simp [Act.put])
    | (go_big_quiet_step (first
      | (go_at_call 4; exact ext_below (known42 _))
      | (go_at_call 7; exact ext_below (CV2.out _ (Ext.below _)))
      | (go_at_call 8; exact ext_below (CW2.out _ (Ext.below _)))
      | (go_at_call 9; exact ext_below (CS.out _ (Ext.below _)))
      | (go_at_call 10; exact ext_below (CI.out _ (Ext.below _))))))
  refine wpQuiet_nil ?_
  rintro ⟨w7, hq7⟩
  go_wp2_with fail
  go_ret
  exact ⟨rfl, below_then HW2.out hq7⟩
end Go.Proofs.Ytdmfafbfaelfnaa
