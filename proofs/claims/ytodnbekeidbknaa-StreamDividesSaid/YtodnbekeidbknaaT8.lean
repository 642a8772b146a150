/- Streams as plain data and in the heap; the walks of both Valid of streams. -/
import Derived.Test.YtodnbekeidbknaaT7
set_option linter.unusedVariables false
set_option linter.unusedSimpArgs false
namespace Go.Proofs.Ytodnbekeidbknaa
open Go.RowKit

/-- A stream, plain. -/
structure StrD where
  (net old : NetD)
  (s f : List Int)
  (fade left ev : Int)
/-- When a stream is valid. -/
def StrD.Good (u : StrD) : Prop := u.net.ok = true ∧ u.net.state u.s = true ∧ (0 ≤ u.ev ∧ u.ev ≤ 1099511627776) ∧ (0 ≤ u.fade ∧ u.fade ≤ 4096) ∧ (0 ≤ u.left ∧ u.left ≤ u.fade) ∧
  ((u.left = 0 ∧ u.fade = 0 ∧ u.old.isZero = true ∧ u.f.length = 0) ∨ (u.left ≠ 0 ∧ u.old.ok = true ∧ u.old.same u.net = true ∧ u.old.state u.f = true))
instance (u : StrD) : Decidable u.Good := by unfold StrD.Good; infer_instance
/-- A stream with the places of its slices. -/
structure StrA where
  d : StrD
  (NA XA MA YA SA FA : Option Addr)
  (nc xc mc yc sc fc : Nat)
abbrev StrA.vals (u : StrA) : Array Value := #[.int .i64 u.d.net.d0, .int .i64 u.d.net.d1, .int .i64 u.d.net.d2, .int .i64 u.d.net.d3, .int .i64 u.d.net.c0, .int .i64 u.d.net.c1, .int .i64 u.d.net.c2, .int .i64 u.d.net.c3, .int .i64 u.d.net.st, .slice u.NA u.d.net.ns.length u.nc, .slice u.XA u.d.net.nx.length u.xc, .int .i64 u.d.net.out,
  .int .i64 u.d.old.d0, .int .i64 u.d.old.d1, .int .i64 u.d.old.d2, .int .i64 u.d.old.d3, .int .i64 u.d.old.c0, .int .i64 u.d.old.c1, .int .i64 u.d.old.c2, .int .i64 u.d.old.c3, .int .i64 u.d.old.st, .slice u.MA u.d.old.ns.length u.mc, .slice u.YA u.d.old.nx.length u.yc, .int .i64 u.d.old.out,
  .slice u.SA u.d.s.length u.sc, .slice u.FA u.d.f.length u.fc, .int .i64 u.d.fade, .int .i64 u.d.left, .int .i64 u.d.ev]
abbrev StrA.val (u : StrA) : Value := .agg u.vals
/-- What lies behind a network's slices. -/
structure NetAt (w : World) (n : NetD) (NA XA : Option Addr) : Prop where
  nodes : NodesAt w NA n.ns
  next : Ints w XA n.nx
  n1 : n.ns.length ≤ 9223372036854775807
  n2 : n.nx.length ≤ 9223372036854775807
  n3 : ∀ ts ∈ n.ns, ts.length ≤ 9223372036854775807
  st : I64 n.st
theorem NetAt.grow {w w' : World} {n : NetD} {NA XA : Option Addr} (h : NetAt w n NA XA) (hb : Below w.heap.size w w') : NetAt w' n NA XA := ⟨h.nodes.grow hb, h.next.grow hb, h.n1, h.n2, h.n3, h.st⟩
theorem NetAt.zero {w : World} {NA XA : Option Addr} : NetAt w NetD.zero NA XA := ⟨NodesAt.nil, Ints.nil, by decide, by decide, by simp [NetD.zero], by decide, by decide⟩
/-- What lies behind a stream's slices. -/
structure StrAt (w : World) (u : StrA) : Prop where
  net : NetAt w u.d.net u.NA u.XA
  old : NetAt w u.d.old u.MA u.YA
  s : Ints w u.SA u.d.s
  f : Ints w u.FA u.d.f
  n1 : u.d.s.length ≤ 9223372036854775807
  n2 : u.d.f.length ≤ 9223372036854775807
theorem StrAt.grow {w w' : World} {u : StrA} (h : StrAt w u) (hb : Below w.heap.size w w') : StrAt w' u := ⟨h.net.grow hb, h.old.grow hb, h.s.grow hb, h.f.grow hb, h.n1, h.n2⟩
/-- The block g holds the stream's cells. -/
def StrBox (w : World) (g : Nat) (u : StrA) : Prop := Box w g u.vals.toList
theorem StrBox.net {w : World} {g : Nat} {u : StrA} (h : StrBox w g u) : (w.cell? ⟨g, 0, none⟩ = some (.int .i64 u.d.net.d0) ∧ w.cell? ⟨g, 1, none⟩ = some (.int .i64 u.d.net.d1) ∧ w.cell? ⟨g, 2, none⟩ = some (.int .i64 u.d.net.d2) ∧ w.cell? ⟨g, 3, none⟩ = some (.int .i64 u.d.net.d3)) ∧
    (w.cell? ⟨g, 4, none⟩ = some (.int .i64 u.d.net.c0) ∧ w.cell? ⟨g, 5, none⟩ = some (.int .i64 u.d.net.c1) ∧ w.cell? ⟨g, 6, none⟩ = some (.int .i64 u.d.net.c2) ∧ w.cell? ⟨g, 7, none⟩ = some (.int .i64 u.d.net.c3)) ∧
    w.cell? ⟨g, 8, none⟩ = some (.int .i64 u.d.net.st) ∧ w.cell? ⟨g, 9, none⟩ = some (.slice u.NA u.d.net.ns.length u.nc) ∧ w.cell? ⟨g, 10, none⟩ = some (.slice u.XA u.d.net.nx.length u.xc) ∧ w.cell? ⟨g, 11, none⟩ = some (.int .i64 u.d.net.out) :=
  ⟨⟨h.2.1 0, h.2.1 1, h.2.1 2, h.2.1 3⟩, ⟨h.2.1 4, h.2.1 5, h.2.1 6, h.2.1 7⟩, h.2.1 8, h.2.1 9, h.2.1 10, h.2.1 11⟩
theorem StrBox.old {w : World} {g : Nat} {u : StrA} (h : StrBox w g u) : (w.cell? ⟨g, 12, none⟩ = some (.int .i64 u.d.old.d0) ∧ w.cell? ⟨g, 13, none⟩ = some (.int .i64 u.d.old.d1) ∧ w.cell? ⟨g, 14, none⟩ = some (.int .i64 u.d.old.d2) ∧ w.cell? ⟨g, 15, none⟩ = some (.int .i64 u.d.old.d3)) ∧
    (w.cell? ⟨g, 16, none⟩ = some (.int .i64 u.d.old.c0) ∧ w.cell? ⟨g, 17, none⟩ = some (.int .i64 u.d.old.c1) ∧ w.cell? ⟨g, 18, none⟩ = some (.int .i64 u.d.old.c2) ∧ w.cell? ⟨g, 19, none⟩ = some (.int .i64 u.d.old.c3)) ∧
    w.cell? ⟨g, 20, none⟩ = some (.int .i64 u.d.old.st) ∧ w.cell? ⟨g, 21, none⟩ = some (.slice u.MA u.d.old.ns.length u.mc) ∧ w.cell? ⟨g, 22, none⟩ = some (.slice u.YA u.d.old.nx.length u.yc) ∧ w.cell? ⟨g, 23, none⟩ = some (.int .i64 u.d.old.out) :=
  ⟨⟨h.2.1 12, h.2.1 13, h.2.1 14, h.2.1 15⟩, ⟨h.2.1 16, h.2.1 17, h.2.1 18, h.2.1 19⟩, h.2.1 20, h.2.1 21, h.2.1 22, h.2.1 23⟩
theorem StrBox.rest {w : World} {g : Nat} {u : StrA} (h : StrBox w g u) : w.cell? ⟨g, 24, none⟩ = some (.slice u.SA u.d.s.length u.sc) ∧ w.cell? ⟨g, 25, none⟩ = some (.slice u.FA u.d.f.length u.fc) ∧ w.cell? ⟨g, 26, none⟩ = some (.int .i64 u.d.fade) ∧ w.cell? ⟨g, 27, none⟩ = some (.int .i64 u.d.left) ∧ w.cell? ⟨g, 28, none⟩ = some (.int .i64 u.d.ev) :=
  ⟨h.2.1 24, h.2.1 25, h.2.1 26, h.2.1 27, h.2.1 28⟩
theorem StrBox.mk (w : World) (u : StrA) : StrBox (w.alloc (.cells u.vals 38)) w.heap.size u := Box.new rfl
theorem StrBox.keep {w w' : World} {g : Nat} {u : StrA} (h : StrBox w g u) (hb : Below w.heap.size w w') : StrBox w' g u := Box.keep h hb
set_option maxRecDepth 100000 in
set_option maxHeartbeats 4000000 in
theorem st_Valid (u : StrA) (w : World) (hu : StrAt w u) : Calls Try.prog 24 #[u.val] w (BoolBw w (decide u.d.Good)) := by
  have HU := Lib.hid hu
  have hbx := StrBox.mk w u
  have HBX := Lib.hid hbx
  have hal := (Below.refl w.heap.size w).alloc (Nat.le_refl _) (.cells u.vals 38)
  have HAL := Lib.hid hal
  obtain ⟨vb, hvb⟩ : ∃ b, u.d.net.ok = b := ⟨_, rfl⟩
  obtain ⟨sb, hsb⟩ : ∃ b, u.d.net.state u.d.s = b := ⟨_, rfl⟩
  obtain ⟨ob, hob⟩ : ∃ b, u.d.old.ok = b := ⟨_, rfl⟩
  obtain ⟨fb, hfb⟩ : ∃ b, u.d.old.state u.d.f = b := ⟨_, rfl⟩
  obtain ⟨zb, hzb⟩ : ∃ b, u.d.old.isZero = b := ⟨_, rfl⟩
  have CV : Hid (∀ w1, Below w.heap.size w w1 → Calls Try.prog 22 #[u.d.net.val u.NA u.nc u.XA u.xc] w1 fun e w' => e = .returned (.bool vb) ∧ Below w1.heap.size w1 w') := fun w1 hb => by
    have h := hu.net.grow hb
    have := nw_Valid u.d.net.d0 u.d.net.d1 u.d.net.d2 u.d.net.d3 u.d.net.c0 u.d.net.c1 u.d.net.c2 u.d.net.c3 u.d.net.st u.d.net.out u.NA u.XA u.nc u.xc u.d.net.ns u.d.net.nx w1 h.nodes h.next h.n1 h.n2 h.n3 h.st
    rw [show netB _ _ _ _ _ _ _ _ _ _ _ _ = vb from hvb] at this; exact this
  have CO : Hid (∀ w1, Below w.heap.size w w1 → Calls Try.prog 22 #[u.d.old.val u.MA u.mc u.YA u.yc] w1 fun e w' => e = .returned (.bool ob) ∧ Below w1.heap.size w1 w') := fun w1 hb => by
    have h := hu.old.grow hb
    have := nw_Valid u.d.old.d0 u.d.old.d1 u.d.old.d2 u.d.old.d3 u.d.old.c0 u.d.old.c1 u.d.old.c2 u.d.old.c3 u.d.old.st u.d.old.out u.MA u.YA u.mc u.yc u.d.old.ns u.d.old.nx w1 h.nodes h.next h.n1 h.n2 h.n3 h.st
    rw [show netB _ _ _ _ _ _ _ _ _ _ _ _ = ob from hob] at this; exact this
  have CS : Hid (∀ w1, Below w.heap.size w w1 → Calls Try.prog 32 #[u.d.net.val u.NA u.nc u.XA u.xc, .slice u.SA u.d.s.length u.sc] w1 fun e w' => e = .returned (.bool sb) ∧ Below w1.heap.size w1 w') := fun w1 hb => by
    have := st_isState u.d.net u.NA u.XA u.SA u.nc u.xc _ u.sc u.d.s w1 (hu.s.grow hb) rfl hu.n1
    rw [hsb] at this; exact this
  have CF : Hid (∀ w1 a0 a1 a2 a3, Below w.heap.size w w1 → u.d.old.d0 = a0 → u.d.old.d1 = a1 → u.d.old.d2 = a2 → u.d.old.d3 = a3 → Calls Try.prog 32 #[.agg #[.int .i64 a0, .int .i64 a1, .int .i64 a2, .int .i64 a3, .int .i64 u.d.old.c0, .int .i64 u.d.old.c1, .int .i64 u.d.old.c2, .int .i64 u.d.old.c3, .int .i64 u.d.old.st, .slice u.MA u.d.old.ns.length u.mc, .slice u.YA u.d.old.nx.length u.yc, .int .i64 u.d.old.out], .slice u.FA u.d.f.length u.fc] w1 fun e w' => e = .returned (.bool fb) ∧ Below w1.heap.size w1 w') := fun w1 a0 a1 a2 a3 hb e0 e1 e2 e3 => by
    subst e0 e1 e2 e3
    have := st_isState u.d.old u.MA u.YA u.FA u.mc u.yc _ u.fc u.d.f w1 (hu.f.grow hb) rfl hu.n2
    rw [hfb] at this; exact this
  have CZ : Hid (∀ w1, Calls Try.prog 33 #[u.d.old.val u.MA u.mc u.YA u.yc] w1 fun e w' => e = .returned (.bool zb) ∧ Below w1.heap.size w1 w') := fun w1 => by
    have := st_zeroNet u.d.old.d0 u.d.old.d1 u.d.old.d2 u.d.old.d3 u.d.old.c0 u.d.old.c1 u.d.old.c2 u.d.old.c3 u.d.old.st u.d.old.out u.MA u.YA u.d.old.ns.length u.mc u.d.old.nx.length u.yc w1
    rw [show decide _ = zb from hzb] at this; exact this
  have HVB := Lib.hid hvb
  have HSB := Lib.hid hsb
  have HOB := Lib.hid hob
  have HFB := Lib.hid hfb
  have HZB := Lib.hid hzb
  clear hu hvb hsb hob hfb hzb hbx hal
  unfold NetD.val netV at CV CO CS CZ
  unfold StrA.val StrA.vals at *
  rcases vb with _ | _
  · go_enter Try.func24, Try.ntmps24
    go_wp2_with (first
      | (go_at_call 22; with_reducible refine (CV.out _ HAL.out).mono ?_; rintro e w1 ⟨rfl, hb1⟩))
    go_ret
    exact ⟨ret_bool (decide_eq_false (fun h => by have := h.1; rw [HVB.out] at this; cases this)).symm, below_then HAL.out hb1⟩
  rcases sb with _ | _
  · go_enter Try.func24, Try.ntmps24
    go_wp2_with (first
      | (go_at_call 22; with_reducible refine (CV.out _ HAL.out).mono ?_; rintro e w1 ⟨rfl, hb1⟩; have hw1 := below_then HAL.out hb1; have bx1 := HBX.out.keep hb1; obtain ⟨⟨a1, a2, a3, a4⟩, ⟨a5, a6, a7, a8⟩, a9, a10, a11, a12⟩ := bx1.net; obtain ⟨r1, r2, r3, r4, r5⟩ := bx1.rest)
      | (go_at_call 32; with_reducible refine (CS.out _ hw1).mono ?_; rintro e w2 ⟨rfl, hb2⟩))
    go_ret
    exact ⟨ret_bool (decide_eq_false (fun h => by have := h.2.1; rw [HSB.out] at this; cases this)).symm, below_then hw1 hb2⟩
  have hcase : ((u.d.left == 0) = true ∧ u.d.left = 0) ∨ ((u.d.left == 0) = false ∧ u.d.left ≠ 0) := by
    by_cases h : u.d.left = 0
    · left; exact ⟨by rw [h]; rfl, h⟩
    · right; exact ⟨by simpa using h, h⟩
  have HC := Lib.hid hcase
  clear hcase
  have HA1 : Hid ((((u.d.f.length : Int) == 0) = true) ↔ u.d.f.length = 0) := by show _ ↔ _; rw [beq_iff_eq]; omega
  go_enter Try.func24, Try.ntmps24
  go_wp2_with (first
      | (go_at_call 22; with_reducible refine (CV.out _ HAL.out).mono ?_; rintro e w1 ⟨rfl, hb1⟩; have hw1 := below_then HAL.out hb1; have bx1 := HBX.out.keep hb1; obtain ⟨⟨a1, a2, a3, a4⟩, ⟨a5, a6, a7, a8⟩, a9, a10, a11, a12⟩ := bx1.net; obtain ⟨r1, r2, r3, r4, r5⟩ := bx1.rest)
      | (go_at_call 32; with_reducible refine (CS.out _ hw1).mono ?_; rintro e w2 ⟨rfl, hb2⟩; have hw2 := below_then hw1 hb2; have bx2 := bx1.keep hb2; obtain ⟨⟨a1, a2, a3, a4⟩, ⟨a5, a6, a7, a8⟩, a9, a10, a11, a12⟩ := bx2.net; obtain ⟨r1, r2, r3, r4, r5⟩ := bx2.rest; obtain ⟨⟨o1, o2, o3, o4⟩, ⟨o5, o6, o7, o8⟩, o9, o10, o11, o12⟩ := bx2.old)
      | (go_at_call 33; with_reducible refine (CZ.out _).mono ?_; rintro e w3 ⟨rfl, hb3⟩; have hw3 := below_then hw2 hb3; have bx3 := bx2.keep hb3; obtain ⟨r1, r2, r3, r4, r5⟩ := bx3.rest)
      | (go_at_call 22; with_reducible refine (CO.out _ hw2).mono ?_; rintro e w3 ⟨rfl, hb3⟩; have hw3 := below_then hw2 hb3; have bx3 := bx2.keep hb3; obtain ⟨r1, r2, r3, r4, r5⟩ := bx3.rest; obtain ⟨⟨a1, a2, a3, a4⟩, ⟨a5, a6, a7, a8⟩, a9, a10, a11, a12⟩ := bx3.net; obtain ⟨⟨o1, o2, o3, o4⟩, ⟨o5, o6, o7, o8⟩, o9, o10, o11, o12⟩ := bx3.old)
      | (go_at_call 32; with_reducible refine (CF.out _ _ _ _ _ hw3 (by first | rfl | assumption) (by first | rfl | assumption) (by first | rfl | assumption) (by first | rfl | assumption)).mono ?_; rintro e w4 ⟨rfl, hb4⟩; have hw4 := below_then hw3 hb4))
  all_goals
    go_ret
    refine ⟨ret_bool (bool_dec ?_), by first | exact hw4 | exact hw3 | exact hw2⟩
    have q1 := HVB.out
    have q2 := HSB.out
    have q3 := HOB.out
    have q4 := HFB.out
    have q5 := HZB.out
    unfold StrD.Good NetD.same
    simp only [q1, q2, q3, q4, q5, beq_iff_eq, decide_eq_true_eq, Bool.false_eq_true, true_and, false_and, and_false, and_true, or_false, false_or, iff_true, iff_false, true_iff, false_iff, not_false_eq_true]
    cases zb <;> cases ob <;> cases fb <;> first | contradiction | skip
    all_goals simp only [Bool.false_eq_true, true_and, false_and, and_false, and_true, or_false, false_or, not_false_eq_true, iff_true, iff_false, true_iff, false_iff]
    all_goals (have hc := HC.out; rcases hc with ⟨c1, c2⟩ | ⟨c1, c2⟩ <;> first | omega | (exfalso; simp_all; done) | trace_state)
end Go.Proofs.Ytodnbekeidbknaa
