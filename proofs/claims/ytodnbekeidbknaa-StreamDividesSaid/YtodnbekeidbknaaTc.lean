/- The walk of copyStream of package stream. -/
import Derived.Test.YtodnbekeidbknaaTb
set_option linter.unusedVariables false
set_option linter.unusedSimpArgs false
namespace Go.Proofs.Ytodnbekeidbknaa
open Go.RowKit

theorem good_lens {d : StrD} (h : d.Good) : d.net.ok = true ∧ d.s.length ≤ 64 ∧ d.f.length ≤ 64 := by
  obtain ⟨h1, h2, -, -, -, h3⟩ := h
  obtain ⟨-, -, ⟨p1, p2⟩, -, -, -, -, -⟩ := netB_parts h1
  have hs : (d.s.length : Int) = d.net.st := by unfold NetD.state at h2; simp only [Bool.and_eq_true, beq_iff_eq] at h2; exact h2.1
  refine ⟨h1, by omega, ?_⟩
  rcases h3 with ⟨-, -, -, h⟩ | ⟨-, h4, -, h5⟩
  · omega
  · obtain ⟨-, -, ⟨q1, q2⟩, -, -, -, -, -⟩ := netB_parts h4
    have : (d.f.length : Int) = d.old.st := by unfold NetD.state at h5; simp only [Bool.and_eq_true, beq_iff_eq] at h5; exact h5.1
    omega
set_option maxRecDepth 100000 in
set_option maxHeartbeats 4000000 in
theorem st_copyStream (u : StrA) (w : World) (hu : StrAt w u) (hg : u.d.Good) : Calls Try.prog 34 #[u.v] w (RetStr w u.d) := by
  obtain ⟨hok, hs64, hf64⟩ := good_lens hg
  have CN : Hid (∀ w1, Below w.heap.size w w1 → Calls Try.prog 23 #[.agg u.netL.toArray] w1 fun e w' => ∃ NA nc XA xc, e = .returned (.agg (u.d.net.lst NA nc XA xc).toArray) ∧ NetF w1.heap.size w' u.d.net NA XA ∧ NetT w' u.d.net NA XA ∧ Below w1.heap.size w1 w') := fun w1 hb => st_cloneNet u.d.net u.NA u.XA u.nc u.xc w1 (hu.net.grow hb) hok
  have CS : Hid (∀ w1, Below w.heap.size w w1 → Calls Try.prog 30 #[.slice u.SA u.d.s.length u.sc] w1 fun e w' => ∃ A c, e = .returned (.slice A u.d.s.length c) ∧ IntsF w1.heap.size w' A u.d.s ∧ Below w1.heap.size w1 w') := fun w1 hb => by
    refine (sl_CloneI u.SA _ u.sc u.d.s w1 (hu.s.grow hb) rfl (by omega)).mono ?_
    rintro e w2 ⟨v, rfl, ho, hb⟩
    obtain ⟨A, c, rfl, -, hi⟩ := ho.form
    exact ⟨A, c, rfl, IntsF.own ho, hb⟩
  have CF : Hid (∀ w1, Below w.heap.size w w1 → Calls Try.prog 30 #[.slice u.FA u.d.f.length u.fc] w1 fun e w' => ∃ A c, e = .returned (.slice A u.d.f.length c) ∧ IntsF w1.heap.size w' A u.d.f ∧ Below w1.heap.size w1 w') := fun w1 hb => by
    refine (sl_CloneI u.FA _ u.fc u.d.f w1 (hu.f.grow hb) rfl (by omega)).mono ?_
    rintro e w2 ⟨v, rfl, ho, hb⟩
    obtain ⟨A, c, rfl, -, hi⟩ := ho.form
    exact ⟨A, c, rfl, IntsF.own ho, hb⟩
  have CO : Hid (u.d.left ≠ 0 → ∀ w1, Below w.heap.size w w1 → Calls Try.prog 23 #[.agg u.oldL.toArray] w1 fun e w' => ∃ NA nc XA xc, e = .returned (.agg (u.d.old.lst NA nc XA xc).toArray) ∧ NetF w1.heap.size w' u.d.old NA XA ∧ NetT w' u.d.old NA XA ∧ Below w1.heap.size w1 w') := fun h0 w1 hb => st_cloneNet u.d.old u.MA u.YA u.mc u.yc w1 (hu.old.grow hb) (by
    obtain ⟨-, -, -, -, -, h | h⟩ := hg
    · exact absurd h.1 h0
    · exact h.2.1)
  have HG := Lib.hid hg
  have hleft : 0 ≤ u.d.left := hg.2.2.2.2.1.1
  clear hu hg
  by_cases hl0 : u.d.left = 0
  · have hlt : decide ((0 : Int) < u.d.left) = false := decide_eq_false (by omega)
    obtain ⟨hz, hf⟩ : u.d.old = NetD.zero ∧ u.d.f = [] := by
      obtain ⟨-, -, -, -, -, h | h⟩ := HG.out
      · exact ⟨NetD.isZero_iff.1 h.2.2.1, List.eq_nil_of_length_eq_zero h.2.2.2⟩
      · exact absurd hl0 h.1
    have HD3 : Hid ({ u.d with old := NetD.zero, f := [] } = u.d) := by show _ = _; rw [← hz, ← hf]
    clear hz hf
    go_enter Try.func34, Try.ntmps34
    go_upto_region 1 with fail
    change Code.wp _ _ _ _ ((w.alloc (.cells u.cells.toArray 38)).alloc (.cells StrA.zero.cells.toArray 38))
    obtain ⟨bx0, bz0, hb0, hs0⟩ := entry2 w u
    generalize ((w.alloc (.cells u.cells.toArray 38)).alloc (.cells StrA.zero.cells.toArray 38)) = W0 at bx0 bz0 hb0 hs0 ⊢
    have BX0 := Lib.hid bx0
    have BZ0 := Lib.hid bz0
    have HB0 := Lib.hid hb0
    clear bx0 bz0 hb0
    go_wp2_with (first
      | (refine ld_net BX0.out rfl _ rfl rfl ?_)
      | (go_at_call 23; (with_reducible refine (CN.out _ HB0.out).mono ?_); rintro e w1 ⟨NB, nb, XB, xb, rfl, hn1, -, hb1⟩; have bx1 := BX0.out.keep hb1; have bz1 := BZ0.out.keep hb1; have hw1 := below_then HB0.out hb1; have hs1 := hb1.size)
      | (refine st_net bx1 rfl _ _ rfl rfl rfl ?_; intro W1 bx2 pg2; have bz2 := bz1.away pg2 (by omega); have hw2 := put_facts hw1 (Nat.le_refl _) pg2; have hn2 := (hn1.base (b' := w.heap.size + 2) hs0).away pg2 (by omega); have hs2 := pg2.size; obtain ⟨r1, r2, r3, r4, r5⟩ := bx2.rest)
      | (go_at_call 30; (with_reducible refine (CS.out _ hw2).mono ?_); rintro e w3 ⟨SB, sb, rfl, hi3, hb3⟩; have bx3 := bx2.keep hb3; have bz3 := bz2.keep hb3; have hw3 := below_then hw2 hb3; have hn3 := hn2.grow hb3; have hs3 := hb3.size; obtain ⟨r1, r2, r3, r4, r5⟩ := bx3.rest; have hf3 := bx3.2.2; have hl3 := bx3.1; obtain ⟨bx4, pg4⟩ := bx3.setS SB u.d.s sb _ rfl; have bz4 := bz3.away pg4 (by omega); have hw4 := put_facts hw3 (Nat.le_refl _) pg4; have hn4 := hn3.away pg4 (by omega); have hi4 := (hi3.base (b' := w.heap.size + 2) (by omega)).away pg4 (by omega); have hs4 := pg4.size)
      | (refine st_old bx4 (n := NetD.zero) (NB := none) (nb := 0) (XB := none) (xb := 0) rfl _ _ rfl rfl rfl ?_; intro W5 bx5 pg5; have bz5 := bz4.away pg5 (by omega); have hw5 := put_facts hw4 (Nat.le_refl _) pg5; have hn5 := hn4.away pg5 (by omega); have hi5 := hi4.away pg5 (by omega); have hs5 := pg5.size; obtain ⟨r1, r2, r3, r4, r5⟩ := bx5.rest; have hf5 := bx5.2.2; have hl5 := bx5.1; obtain ⟨bx6, pg6⟩ := bx5.setF none [] 0 0 rfl; have bz6 := bz5.away pg6 (by omega); have hw6 := put_facts hw5 (Nat.le_refl _) pg6; have hn6 := hn5.away pg6 (by omega); have hi6 := hi5.away pg6 (by omega); have hs6 := pg6.size)
      | (refine ld_str bx6 rfl _ rfl rfl ?_)
      | (refine st_str bz6 rfl _ _ rfl rfl rfl ?_; intro W7 bz7 pg7; have hw7 := put_facts hw6 (Nat.le_succ _) pg7; have hn7 := hn6.away pg7 (by omega); have hi7 := hi6.away pg7 (by omega)))
    have hres := res_str bz7
    refine bodyPost_ret (v := StrA.v { u with d := { u.d with old := NetD.zero, f := [] }, NA := NB, nc := nb, XA := XB, xc := xb, SA := SB, sc := sb, MA := none, mc := 0, YA := none, yc := 0, FA := none, fc := 0 }) (results_c rfl _ _ _ rfl hres) rfl ?_
    exact ⟨_, rfl, HD3.out, ⟨hn7.base (by omega), NetF.zero, hi7.base (by omega), IntsF.nil, by show u.d.s.length ≤ _; omega, by show 0 ≤ _; omega⟩, hw7⟩
  · have hlt : decide ((0 : Int) < u.d.left) = true := decide_eq_true (by omega)
    go_enter Try.func34, Try.ntmps34
    go_upto_region 1 with fail
    change Code.wp _ _ _ _ ((w.alloc (.cells u.cells.toArray 38)).alloc (.cells StrA.zero.cells.toArray 38))
    obtain ⟨bx0, bz0, hb0, hs0⟩ := entry2 w u
    generalize ((w.alloc (.cells u.cells.toArray 38)).alloc (.cells StrA.zero.cells.toArray 38)) = W0 at bx0 bz0 hb0 hs0 ⊢
    have BX0 := Lib.hid bx0
    have BZ0 := Lib.hid bz0
    have HB0 := Lib.hid hb0
    clear bx0 bz0 hb0
    go_wp2_with (first
      | (refine ld_net BX0.out rfl _ rfl rfl ?_)
      | (go_at_call 23; (with_reducible refine (CN.out _ HB0.out).mono ?_); rintro e w1 ⟨NB, nb, XB, xb, rfl, hn1, -, hb1⟩; have bx1 := BX0.out.keep hb1; have bz1 := BZ0.out.keep hb1; have hw1 := below_then HB0.out hb1; have hs1 := hb1.size)
      | (refine st_net bx1 rfl _ _ rfl rfl rfl ?_; intro W1 bx2 pg2; have bz2 := bz1.away pg2 (by omega); have hw2 := put_facts hw1 (Nat.le_refl _) pg2; have hn2 := (hn1.base (b' := w.heap.size + 2) hs0).away pg2 (by omega); have hs2 := pg2.size; obtain ⟨r1, r2, r3, r4, r5⟩ := bx2.rest)
      | (go_at_call 30; (with_reducible refine (CS.out _ hw2).mono ?_); rintro e w3 ⟨SB, sb, rfl, hi3, hb3⟩; have bx3 := bx2.keep hb3; have bz3 := bz2.keep hb3; have hw3 := below_then hw2 hb3; have hn3 := hn2.grow hb3; have hs3 := hb3.size; obtain ⟨r1, r2, r3, r4, r5⟩ := bx3.rest; have hf3 := bx3.2.2; have hl3 := bx3.1; obtain ⟨bx4, pg4⟩ := bx3.setS SB u.d.s sb _ rfl; have bz4 := bz3.away pg4 (by omega); have hw4 := put_facts hw3 (Nat.le_refl _) pg4; have hn4 := hn3.away pg4 (by omega); have hi4 := (hi3.base (b' := w.heap.size + 2) (by omega)).away pg4 (by omega); have hs4 := pg4.size)
      | (refine ld_old bx4 rfl _ rfl rfl ?_)
      | (go_at_call 23; refine (CO.out hl0 _ hw4).mono ?_; rintro e w5 ⟨MB, mb, YB, yb, rfl, ho5, -, hb5⟩; have bx5 := bx4.keep hb5; have bz5 := bz4.keep hb5; have hw5 := below_then hw4 hb5; have hs5 := hb5.size; have hn5 := hn4.grow hb5; have hi5 := hi4.grow hb5)
      | (refine st_old bx5 rfl _ _ rfl rfl rfl ?_; intro W6 bx6 pg6; have bz6 := bz5.away pg6 (by omega); have hw6 := put_facts hw5 (Nat.le_refl _) pg6; have hn6 := hn5.away pg6 (by omega); have hi6 := hi5.away pg6 (by omega); have ho6 := (ho5.base (b' := w.heap.size + 2) (by omega)).away pg6 (by omega); have hs6 := pg6.size; obtain ⟨r1, r2, r3, r4, r5⟩ := bx6.rest)
      | (go_at_call 30; (with_reducible refine (CF.out _ hw6).mono ?_); rintro e w7 ⟨FB, fb, rfl, hf7, hb7⟩; have bx7 := bx6.keep hb7; have bz7 := bz6.keep hb7; have hw7 := below_then hw6 hb7; have hn7 := hn6.grow hb7; have hi7 := hi6.grow hb7; have ho7 := ho6.grow hb7; have hs7 := hb7.size; obtain ⟨r1, r2, r3, r4, r5⟩ := bx7.rest; have hfr7 := bx7.2.2; have hl7 := bx7.1; obtain ⟨bx8, pg8⟩ := bx7.setF FB u.d.f fb _ rfl; have bz8 := bz7.away pg8 (by omega); have hw8 := put_facts hw7 (Nat.le_refl _) pg8; have hn8 := hn7.away pg8 (by omega); have hi8 := hi7.away pg8 (by omega); have ho8 := ho7.away pg8 (by omega); have hf8 := (hf7.base (b' := w.heap.size + 2) (by omega)).away pg8 (by omega); have hs8 := pg8.size)
      | (refine ld_str bx8 rfl _ rfl rfl ?_)
      | (refine st_str bz8 rfl _ _ rfl rfl rfl ?_; intro W9 bz9 pg9; have hw9 := put_facts hw8 (Nat.le_succ _) pg9; have hn9 := hn8.away pg9 (by omega); have hi9 := hi8.away pg9 (by omega); have ho9 := ho8.away pg9 (by omega); have hf9 := hf8.away pg9 (by omega)))
    have hres := res_str bz9
    refine bodyPost_ret (v := StrA.v { u with NA := NB, nc := nb, XA := XB, xc := xb, SA := SB, sc := sb, MA := MB, mc := mb, YA := YB, yc := yb, FA := FB, fc := fb }) (results_c rfl _ _ _ rfl hres) rfl ?_
    exact ⟨_, rfl, rfl, ⟨hn9.base (by omega), ho9.base (by omega), hi9.base (by omega), hf9.base (by omega), by show u.d.s.length ≤ _; omega, by show u.d.f.length ≤ _; omega⟩, hw9⟩
end Go.Proofs.Ytodnbekeidbknaa
