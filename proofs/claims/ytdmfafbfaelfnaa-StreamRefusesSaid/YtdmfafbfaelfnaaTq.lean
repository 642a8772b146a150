/- Same of the reference of layer 42: two streams in the heap with the same plain data. -/
import Derived.Test.YtdmfafbfaelfnaaTp
import Derived.Test.YtdmfafbfaelfnaaTk
namespace Go.Proofs.Ytdmfafbfaelfnaa
open Go.RowKit

theorem ld_oldW {ops : Array Oper} {rest : List Oper} {o : Oper} {a : Act} {Q : Exit → Act → World → Prop} {w : World} {u : StrA} {g : Nat} (hb : StrBox w g u) (hw : Region.wanted o (yielded ops a.tmps) = true) (x : Operand) (ho : o.op = .load 27 x) (hx : a.eval x = .pointer (some ⟨g, 12, none⟩)) (h : wpList Try.prog ops Q rest (a.put o.dst (.agg u.oldL.toArray)) w) : wpList Try.prog ops Q (o :: rest) a w := by
  obtain ⟨d, h1, h2⟩ := row_net
  exact BigFrame.wpList_want hw fun K hK => wp_load_mid _ x ho g 12 hx u.oldL d (Box.range hb.box (old_in u)) h1 h2 size_net (hK _ _ h)
theorem entrySS (w : World) (u v : StrA) : ∀ W, W = ((w.alloc (.cells u.cells.toArray 29)).alloc (.cells v.cells.toArray 29)) →
    StrBox W w.heap.size u ∧ StrBox W (w.heap.size + 1) v ∧ Below w.heap.size w W := fun W hW => by
  subst hW
  exact ⟨Box.alloc (Box.new rfl) _, Box.new (by simp), ((Below.refl w.heap.size w).alloc (Nat.le_refl _) _).alloc (by simp) _⟩
set_option maxRecDepth 100000 in
set_option maxHeartbeats 4000000 in
theorem r42_Same (u v : StrA) (w : World) (hd : v.d = u.d) (hu : StrAt w u) (hv : StrAt w v) (n1 : u.d.net.nx.length ≤ 1000000) (n2 : u.d.old.nx.length ≤ 1000000) (n3 : u.d.s.length ≤ 1000000) (n4 : u.d.f.length ≤ 1000000) :
    Calls Try.prog 9 #[u.v, v.v] w (fun e w' => e = .returned (.bool true) ∧ Below w.heap.size w w') := by
  have eN : v.netL = u.d.net.lst v.NA v.nc v.XA v.xc := by unfold StrA.netL; rw [hd]
  have eO : v.oldL = u.d.old.lst v.MA v.mc v.YA v.yc := by unfold StrA.oldL; rw [hd]
  have CN : Hid (∀ w1, Below w.heap.size w w1 → Calls Try.prog 23 #[.agg u.netL.toArray, .agg v.netL.toArray] w1 fun e w' => e = .returned (.bool true) ∧ Below w1.heap.size w1 w') := fun w1 hb => by
    rw [eN]
    exact r22_SameNets u.d.net u.NA u.XA v.NA v.XA u.nc u.xc v.nc v.xc w1 (hu.net.grow hb) (by have := hv.net.grow hb; rw [hd] at this; exact this) n1
  have CO : Hid (∀ w1, Below w.heap.size w w1 → Calls Try.prog 23 #[.agg u.oldL.toArray, .agg v.oldL.toArray] w1 fun e w' => e = .returned (.bool true) ∧ Below w1.heap.size w1 w') := fun w1 hb => by
    rw [eO]
    exact r22_SameNets u.d.old u.MA u.YA v.MA v.YA u.mc u.yc v.mc v.yc w1 (hu.old.grow hb) (by have := hv.old.grow hb; rw [hd] at this; exact this) n2
  have CS : Hid (∀ w1, Below w.heap.size w w1 → Calls Try.prog 10 #[.slice u.SA u.d.s.length u.sc, .slice v.SA u.d.s.length v.sc] w1 fun e w' => e = .returned (.bool true) ∧ Below w1.heap.size w1 w') := fun w1 hb =>
    rf_SameN u.SA v.SA u.d.s u.d.s u.sc v.sc _ _ w1 rfl rfl n3 rfl (hu.s.grow hb) (by have := hv.s.grow hb; rw [hd] at this; exact this)
  have CF : Hid (∀ w1, Below w.heap.size w w1 → Calls Try.prog 10 #[.slice u.FA u.d.f.length u.fc, .slice v.FA u.d.f.length v.fc] w1 fun e w' => e = .returned (.bool true) ∧ Below w1.heap.size w1 w') := fun w1 hb =>
    rf_SameN u.FA v.FA u.d.f u.d.f u.fc v.fc _ _ w1 rfl rfl n4 rfl (hu.f.grow hb) (by have := hv.f.grow hb; rw [hd] at this; exact this)
  have HD := Lib.hid hd
  clear hu hv n1 n2 n3 n4 hd eN eO
  go_enter Try.func9, Try.ntmps9
  go_upto_region 1 with fail
  obtain ⟨bx0, bz0, hb0⟩ := entrySS w u v _ rfl
  change Code.wp _ _ _ _ ((w.alloc (.cells u.cells.toArray 29)).alloc (.cells v.cells.toArray 29))
  generalize ((w.alloc (.cells u.cells.toArray 29)).alloc (.cells v.cells.toArray 29)) = W0 at bx0 bz0 hb0 ⊢
  go_wp2_with (first
    | ((with_reducible show wpList _ _ _ (Oper.mk _ (.load 27 _) _ _ _ _ :: _) _ _); first | (refine ld_net bx0 rfl _ rfl rfl ?_) | (refine ld_net bz0 rfl _ rfl rfl ?_) | (refine ld_oldW bx1 rfl _ rfl rfl ?_) | (refine ld_oldW bz1 rfl _ rfl rfl ?_))
    | (go_at_call 23; first
        | ((with_reducible refine (CN.out _ hb0).mono ?_); rintro e1 w1 ⟨rfl, hb1⟩; have bx1 := bx0.keep hb1; have bz1 := bz0.keep hb1; have hw1 := below_then hb0 hb1)
        | ((with_reducible refine (CO.out _ hw1).mono ?_); rintro e2 w2 ⟨rfl, hb2⟩; have bx2 := bx1.keep hb2; have bz2 := bz1.keep hb2; have hw2 := below_then hw1 hb2; obtain ⟨r1, r2, r3, r4, r5⟩ := bx2.rest; obtain ⟨q1, q2, q3, q4, q5⟩ := bz2.rest; rw [HD.out] at q1 q2))
    | (go_at_call 10; first
        | ((with_reducible refine (CS.out _ hw2).mono ?_); rintro e3 w3 ⟨rfl, hb3⟩; have bx3 := bx2.keep hb3; have bz3 := bz2.keep hb3; have hw3 := below_then hw2 hb3; clear r1 r2 r3 r4 r5 q1 q2 q3 q4 q5; obtain ⟨r1, r2, r3, r4, r5⟩ := bx3.rest; obtain ⟨q1, q2, q3, q4, q5⟩ := bz3.rest; rw [HD.out] at q1 q2)
        | ((with_reducible refine (CF.out _ hw3).mono ?_); rintro e4 w4 ⟨rfl, hb4⟩; have bx4 := bx3.keep hb4; have bz4 := bz3.keep hb4; have hw4 := below_then hw3 hb4; clear r1 r2 r3 r4 r5 q1 q2 q3 q4 q5; obtain ⟨r1, r2, r3, r4, r5⟩ := bx4.rest; obtain ⟨q1, q2, q3, q4, q5⟩ := bz4.rest; rw [HD.out] at q1 q2 q3 q4 q5)))
  go_ret
  exact ⟨rfl, hw4⟩
end Go.Proofs.Ytdmfafbfaelfnaa
