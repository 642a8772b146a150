/- The walk of Valid of the reference of layer 42. -/
import Derived.Test.YtdmfafbfaelfnaaT8
namespace Go.Proofs.Ytdmfafbfaelfnaa
open Go.RowKit

set_option maxRecDepth 100000 in
set_option maxHeartbeats 4000000 in
theorem r42_Valid (u : StrA) (w : World) (hu : StrAt w u) : Calls Try.prog 8 #[u.val] w (BoolBw w (decide u.d.Good)) := by
  have HU := Lib.hid hu
  have hbx := StrBox.mk w u
  have HBX := Lib.hid hbx
  have hal := (Below.refl w.heap.size w).alloc (Nat.le_refl _) (.cells u.vals 29)
  have HAL := Lib.hid hal
  obtain ⟨vb, hvb⟩ : ∃ b, u.d.net.ok = b := ⟨_, rfl⟩
  obtain ⟨sb, hsb⟩ : ∃ b, u.d.net.fit u.d.s = b := ⟨_, rfl⟩
  obtain ⟨ob, hob⟩ : ∃ b, u.d.old.ok = b := ⟨_, rfl⟩
  obtain ⟨fb, hfb⟩ : ∃ b, u.d.old.fit u.d.f = b := ⟨_, rfl⟩
  obtain ⟨zb, hzb⟩ : ∃ b, u.d.old.isZero = b := ⟨_, rfl⟩
  obtain ⟨i1, hi1⟩ : ∃ b, inB u.d.ev 0 1099511627776 = b := ⟨_, rfl⟩
  obtain ⟨i2, hi2⟩ : ∃ b, inB u.d.fade 0 4096 = b := ⟨_, rfl⟩
  obtain ⟨i3, hi3⟩ : ∃ b, inB u.d.left 0 u.d.fade = b := ⟨_, rfl⟩
  have K1 : Hid (i1 = true ↔ (0 ≤ u.d.ev ∧ u.d.ev ≤ 1099511627776)) := by rw [← hi1]; exact inB_iff
  have K2 : Hid (i2 = true ↔ (0 ≤ u.d.fade ∧ u.d.fade ≤ 4096)) := by rw [← hi2]; exact inB_iff
  have K3 : Hid (i3 = true ↔ (0 ≤ u.d.left ∧ u.d.left ≤ u.d.fade)) := by rw [← hi3]; exact inB_iff
  have I1 : Hid (∀ w, Calls Try.prog 16 #[.int .i64 u.d.ev, .int .i64 0, .int .i64 1099511627776] w fun e w' => e = .returned (.bool i1) ∧ w = w') := fun w => by have := rf_In u.d.ev 0 1099511627776 w; rw [hi1] at this; exact this
  have I2 : Hid (∀ w, Calls Try.prog 16 #[.int .i64 u.d.fade, .int .i64 0, .int .i64 4096] w fun e w' => e = .returned (.bool i2) ∧ w = w') := fun w => by have := rf_In u.d.fade 0 4096 w; rw [hi2] at this; exact this
  have I3 : Hid (∀ w, Calls Try.prog 16 #[.int .i64 u.d.left, .int .i64 0, .int .i64 u.d.fade] w fun e w' => e = .returned (.bool i3) ∧ w = w') := fun w => by have := rf_In u.d.left 0 u.d.fade w; rw [hi3] at this; exact this
  have CV : Hid (∀ w1, Below w.heap.size w w1 → Calls Try.prog 15 #[u.d.net.val u.NA u.nc u.XA u.xc] w1 fun e w' => e = .returned (.bool vb) ∧ Below w1.heap.size w1 w') := fun w1 hb => by
    have h := hu.net.grow hb
    have := r22_Valid u.d.net.d0 u.d.net.d1 u.d.net.d2 u.d.net.d3 u.d.net.c0 u.d.net.c1 u.d.net.c2 u.d.net.c3 u.d.net.st u.d.net.out u.NA u.XA u.nc u.xc u.d.net.ns u.d.net.nx w1 h.nodes h.next h.n1 h.n2 h.n3 h.st
    rw [show netB _ _ _ _ _ _ _ _ _ _ _ _ = vb from hvb] at this; exact this
  have CO : Hid (∀ w1, Below w.heap.size w w1 → Calls Try.prog 15 #[u.d.old.val u.MA u.mc u.YA u.yc] w1 fun e w' => e = .returned (.bool ob) ∧ Below w1.heap.size w1 w') := fun w1 hb => by
    have h := hu.old.grow hb
    have := r22_Valid u.d.old.d0 u.d.old.d1 u.d.old.d2 u.d.old.d3 u.d.old.c0 u.d.old.c1 u.d.old.c2 u.d.old.c3 u.d.old.st u.d.old.out u.MA u.YA u.mc u.yc u.d.old.ns u.d.old.nx w1 h.nodes h.next h.n1 h.n2 h.n3 h.st
    rw [show netB _ _ _ _ _ _ _ _ _ _ _ _ = ob from hob] at this; exact this
  have CS : Hid (∀ w1, Below w.heap.size w w1 → Calls Try.prog 14 #[wordV u.d.net.d0 u.d.net.d1 u.d.net.d2 u.d.net.d3, .slice u.SA u.d.s.length u.sc] w1 fun e w' => e = .returned (.bool sb) ∧ Below w1.heap.size w1 w') := fun w1 hb => by
    have := rf_Words u.d.net.d0 u.d.net.d1 u.d.net.d2 u.d.net.d3 u.SA u.d.s u.sc w1 hu.n1 (hu.s.grow hb)
    rw [show wordsB _ _ _ _ _ = sb from hsb] at this; exact this
  have CF : Hid (∀ w1 a0 a1 a2 a3, Below w.heap.size w w1 → u.d.old.d0 = a0 → u.d.old.d1 = a1 → u.d.old.d2 = a2 → u.d.old.d3 = a3 → Calls Try.prog 14 #[.agg #[.int .i64 a0, .int .i64 a1, .int .i64 a2, .int .i64 a3], .slice u.FA u.d.f.length u.fc] w1 fun e w' => e = .returned (.bool fb) ∧ Below w1.heap.size w1 w') := fun w1 a0 a1 a2 a3 hb e0 e1 e2 e3 => by
    subst e0 e1 e2 e3
    have := rf_Words u.d.old.d0 u.d.old.d1 u.d.old.d2 u.d.old.d3 u.FA u.d.f u.fc w1 hu.n2 (hu.f.grow hb)
    rw [show wordsB _ _ _ _ _ = fb from hfb] at this; exact this
  have CZ : Hid (∀ w1, Calls Try.prog 22 #[u.d.old.val u.MA u.mc u.YA u.yc] w1 fun e w' => e = .returned (.bool zb) ∧ Below w1.heap.size w1 w') := fun w1 => by
    have := r42_zero u.d.old.d0 u.d.old.d1 u.d.old.d2 u.d.old.d3 u.d.old.c0 u.d.old.c1 u.d.old.c2 u.d.old.c3 u.d.old.st u.d.old.out u.MA u.YA u.d.old.ns.length u.mc u.d.old.nx.length u.yc w1
    rw [show decide _ = zb from hzb] at this; exact this
  have HVB := Lib.hid hvb
  have HSB := Lib.hid hsb
  have HOB := Lib.hid hob
  have HFB := Lib.hid hfb
  have HZB := Lib.hid hzb
  clear hu hvb hsb hob hfb hzb hbx hal
  unfold NetD.val netV at CV CO CZ
  unfold StrA.val StrA.vals at *
  have hcase : ((u.d.left == 0) = true ∧ u.d.left = 0) ∨ ((u.d.left == 0) = false ∧ u.d.left ≠ 0) := by
    by_cases h : u.d.left = 0
    · left; exact ⟨by rw [h]; rfl, h⟩
    · right; exact ⟨by simpa using h, h⟩
  have HC := Lib.hid hcase
  clear hcase hi1 hi2 hi3
  rcases vb with _ | _
  · go_enter Try.func8, Try.ntmps8
    go_wp2_with (first
      | (go_at_call 15; with_reducible refine (CV.out _ HAL.out).mono ?_; rintro e w1 ⟨rfl, hb1⟩))
    go_ret
    exact ⟨ret_bool (decide_eq_false (fun h => by have := h.1; rw [HVB.out] at this; cases this)).symm, below_then HAL.out hb1⟩
  go_enter Try.func8, Try.ntmps8
  go_wp2_with (first
      | (go_at_call 15; with_reducible refine (CV.out _ HAL.out).mono ?_; rintro e w1 ⟨rfl, hb1⟩; have hw1 := below_then HAL.out hb1; have bx1 := HBX.out.keep hb1; obtain ⟨⟨a1, a2, a3, a4⟩, ⟨a5, a6, a7, a8⟩, a9, a10, a11, a12⟩ := bx1.net; obtain ⟨r1, r2, r3, r4, r5⟩ := bx1.rest)
      | (go_at_call 14; with_reducible refine (CS.out _ hw1).mono ?_; rintro e w2 ⟨rfl, hb2⟩; have hw2 := below_then hw1 hb2; have bx2 := bx1.keep hb2; obtain ⟨⟨a1, a2, a3, a4⟩, ⟨a5, a6, a7, a8⟩, a9, a10, a11, a12⟩ := bx2.net; obtain ⟨r1, r2, r3, r4, r5⟩ := bx2.rest; obtain ⟨⟨o1, o2, o3, o4⟩, ⟨o5, o6, o7, o8⟩, o9, o10, o11, o12⟩ := bx2.old)
      | (go_at_call 16; with_reducible refine (I1.out _).mono ?_; rintro e w3 ⟨rfl, rfl⟩)
      | (go_at_call 16; with_reducible refine (I2.out _).mono ?_; rintro e w3 ⟨rfl, rfl⟩)
      | (go_at_call 16; with_reducible refine (I3.out _).mono ?_; rintro e w3 ⟨rfl, rfl⟩)
      | (go_at_call 22; with_reducible refine (CZ.out _).mono ?_; rintro e w3 ⟨rfl, hb3⟩; have hw3 := below_then hw2 hb3; have bx3 := bx2.keep hb3; obtain ⟨r1, r2, r3, r4, r5⟩ := bx3.rest)
      | (go_at_call 15; with_reducible refine (CO.out _ hw2).mono ?_; rintro e w3 ⟨rfl, hb3⟩; have hw3 := below_then hw2 hb3; have bx3 := bx2.keep hb3; obtain ⟨r1, r2, r3, r4, r5⟩ := bx3.rest; obtain ⟨⟨a1, a2, a3, a4⟩, ⟨a5, a6, a7, a8⟩, a9, a10, a11, a12⟩ := bx3.net; obtain ⟨⟨o1, o2, o3, o4⟩, ⟨o5, o6, o7, o8⟩, o9, o10, o11, o12⟩ := bx3.old)
      | (go_at_call 14; with_reducible refine (CF.out _ _ _ _ _ hw3 (by first | rfl | assumption) (by first | rfl | assumption) (by first | rfl | assumption) (by first | rfl | assumption)).mono ?_; rintro e w4 ⟨rfl, hb4⟩; have hw4 := below_then hw3 hb4))
  all_goals
    go_ret
    refine ⟨ret_bool (bool_dec ?_), by first | exact hw4 | exact hw3 | exact hw2 | exact hw1⟩
    have q1 := HVB.out
    have q2 := HSB.out
    have q3 := HOB.out
    have q4 := HFB.out
    have q5 := HZB.out
    have k1 := K1.out
    have k2 := K2.out
    have k3 := K3.out
    unfold StrD.Good NetD.same NetD.state
    simp only [q1, q2, q3, q4, q5, Bool.and_eq_true, beq_iff_eq, decide_eq_true_eq, Bool.false_eq_true, true_and, false_and, and_false, and_true, or_false, false_or, iff_true, iff_false, true_iff, false_iff, not_false_eq_true]
    cases zb <;> cases ob <;> cases fb <;> cases sb <;> cases i1 <;> cases i2 <;> cases i3 <;> first | contradiction | skip
    all_goals simp only [Bool.false_eq_true, true_and, false_and, and_false, and_true, or_false, false_or, not_false_eq_true, iff_true, iff_false, true_iff, false_iff] at k1 k2 k3 ⊢
    all_goals (have hc := HC.out; rcases hc with ⟨c1, c2⟩ | ⟨c1, c2⟩ <;> first | omega | (exfalso; simp_all; done) | trace_state)
end Go.Proofs.Ytdmfafbfaelfnaa
