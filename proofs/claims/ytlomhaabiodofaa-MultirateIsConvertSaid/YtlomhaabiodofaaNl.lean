/- The walk of Line.parts. -/
import Derived.Test.YtlomhaabiodofaaNc
import Derived.Test.YtlomhaabiodofaaC
import Derived.Test.YtlomhaabiodofaaQ
import Derived.Deep.DeepCutAuto
import Derived.Handy
namespace Go.Proofs.Ytlomhaabiodofaa
open Go.RowKit

theorem lineS {W w' : World} {B H : Nat} {v0 v1 v2 v3 : Value} (hH : H < B) (y : W.cell? ⟨H, 0, none⟩ = some v0 ∧ W.cell? ⟨H, 1, none⟩ = some v1 ∧ W.cell? ⟨H, 2, none⟩ = some v2 ∧ W.cell? ⟨H, 3, none⟩ = some v3) (h : Below B W w') :
    w'.cell? ⟨H, 0, none⟩ = some v0 ∧ w'.cell? ⟨H, 1, none⟩ = some v1 ∧ w'.cell? ⟨H, 2, none⟩ = some v2 ∧ w'.cell? ⟨H, 3, none⟩ = some v3 := by
  obtain ⟨y0, y1, y2, y3⟩ := y
  exact ⟨(h.cell hH).trans y0, (h.cell hH).trans y1, (h.cell hH).trans y2, (h.cell hH).trans y3⟩
abbrev zeroes (w : World) (g : Nat) : Prop := (w.cell? ⟨g, 0, none⟩ = some (.int .i64 0) ∧ w.cell? ⟨g, 1, none⟩ = some (.int .i64 0) ∧ w.cell? ⟨g, 2, none⟩ = some (.int .i64 0) ∧ w.cell? ⟨g, 3, none⟩ = some (.int .i64 0)) ∧ w.frozen? ⟨g, 0, none⟩ = false ∧ w.frozen? ⟨g, 1, none⟩ = false ∧ w.frozen? ⟨g, 2, none⟩ = false ∧ w.frozen? ⟨g, 3, none⟩ = false
/-- Four cells with 0 that can be written. -/
def Z4 (w : World) (g : Nat) : Prop := g < w.heap.size ∧ zeroes w g
theorem Z4.keep {a w' : World} {g : Nat} (z : Z4 a g) (h : Below a.heap.size a w') : Z4 w' g := by
  obtain ⟨hg, ⟨y0, y1, y2, y3⟩, z0, z1, z2, z3⟩ := z
  exact ⟨Nat.lt_of_lt_of_le hg h.size, ⟨(h.cell hg).trans y0, (h.cell hg).trans y1, (h.cell hg).trans y2, (h.cell hg).trans y3⟩, (h.frozen hg).trans z0, (h.frozen hg).trans z1, (h.frozen hg).trans z2, (h.frozen hg).trans z3⟩
theorem Z4.alloc {a : World} {g : Nat} (z : Z4 a g) (o : Obj) : Z4 (a.alloc o) g := z.keep ((Below.refl _ _).alloc (Nat.le_refl _) _)
theorem Z4.drew {a : World} {g : Nat} (z : Z4 a g) : Z4 a.drew g := z
theorem Z4.new {a : World} {g : Nat} {t : TypeId} (h : g = a.heap.size) : Z4 (a.alloc (.cells #[.int .i64 0, .int .i64 0, .int .i64 0, .int .i64 0] t)) g := by
  subst h
  exact ⟨by simp, ⟨by simp [go_sem], by simp [go_sem], by simp [go_sem], by simp [go_sem]⟩, by simp [go_sem], by simp [go_sem], by simp [go_sem], by simp [go_sem]⟩
/-- Four cells that hold a format. -/
def Box4 (w : World) (g : Nat) (u : Int × Int × Int × Int) : Prop := g < w.heap.size ∧ w.cell? ⟨g, 0, none⟩ = some (.int .i64 u.1) ∧ w.cell? ⟨g, 1, none⟩ = some (.int .i64 u.2.1) ∧ w.cell? ⟨g, 2, none⟩ = some (.int .i64 u.2.2.1) ∧ w.cell? ⟨g, 3, none⟩ = some (.int .i64 u.2.2.2)
theorem Box4.new {a : World} {g : Nat} {t : TypeId} {u : Int × Int × Int × Int} (h : g = a.heap.size) : Box4 (a.alloc (.cells #[.int .i64 u.1, .int .i64 u.2.1, .int .i64 u.2.2.1, .int .i64 u.2.2.2] t)) g u := by
  subst h
  exact ⟨by simp, by simp [go_sem], by simp [go_sem], by simp [go_sem], by simp [go_sem]⟩
theorem Box4.keep {a w' : World} {g : Nat} {u : Int × Int × Int × Int} (z : Box4 a g u) (h : Below a.heap.size a w') : Box4 w' g u := by
  obtain ⟨hg, y0, y1, y2, y3⟩ := z
  exact ⟨Nat.lt_of_lt_of_le hg h.size, (h.cell hg).trans y0, (h.cell hg).trans y1, (h.cell hg).trans y2, (h.cell hg).trans y3⟩
theorem Box4.alloc {a : World} {g : Nat} {u : Int × Int × Int × Int} (z : Box4 a g u) (o : Obj) : Box4 (a.alloc o) g u := z.keep ((Below.refl _ _).alloc (Nat.le_refl _) _)
theorem Box4.past {a : World} {g b o : Nat} {u : Int × Int × Int × Int} {v : Value} (z : Box4 a g u) (h : b ≠ g) : Box4 (a.setCell ⟨b, o, none⟩ v) g u := by
  obtain ⟨hg, y0, y1, y2, y3⟩ := z
  have e : ∀ k, (a.setCell ⟨b, o, none⟩ v).cell? ⟨g, k, none⟩ = a.cell? ⟨g, k, none⟩ := fun k => World.cell?_setCell_other _ _ _ _ (by intro hc; injection hc with hc; exact h hc)
  exact ⟨by simpa using hg, (e 0).trans y0, (e 1).trans y1, (e 2).trans y2, (e 3).trans y3⟩
theorem Z4.past {a : World} {g b o : Nat} {v : Value} (z : Z4 a g) (h : b ≠ g) : Z4 (a.setCell ⟨b, o, none⟩ v) g := by
  obtain ⟨hg, ⟨y0, y1, y2, y3⟩, z0, z1, z2, z3⟩ := z
  have e : ∀ k, (a.setCell ⟨b, o, none⟩ v).cell? ⟨g, k, none⟩ = a.cell? ⟨g, k, none⟩ := fun k => World.cell?_setCell_other _ _ _ _ (by intro hc; injection hc with hc; exact h hc)
  exact ⟨by simpa using hg, ⟨(e 0).trans y0, (e 1).trans y1, (e 2).trans y2, (e 3).trans y3⟩, by simpa using z0, by simpa using z1, by simpa using z2, by simpa using z3⟩
theorem Box4.set {a : World} {g : Nat} {u : Int × Int × Int × Int} (z : Z4 a g) : Box4 ((((a.setCell ⟨g, 0, none⟩ (.int .i64 u.1)).setCell ⟨g, 1, none⟩ (.int .i64 u.2.1)).setCell ⟨g, 2, none⟩ (.int .i64 u.2.2.1)).setCell ⟨g, 3, none⟩ (.int .i64 u.2.2.2)) g u := by
  obtain ⟨hg, ⟨y0, y1, y2, y3⟩, _⟩ := z
  exact ⟨by simpa using hg, by simp [go_sem, y0, y1, y2, y3], by simp [go_sem, y0, y1, y2, y3], by simp [go_sem, y0, y1, y2, y3], by simp [go_sem, y0, y1, y2, y3]⟩
theorem partsS {a w' : World} {H g h : Nat} {x0 x1 x2 x3 : Value} {D C : Int × Int × Int × Int} (L : Hid (a.cell? ⟨H, 0, none⟩ = some x0 ∧ a.cell? ⟨H, 1, none⟩ = some x1 ∧ a.cell? ⟨H, 2, none⟩ = some x2 ∧ a.cell? ⟨H, 3, none⟩ = some x3))
    (S : Hid ((a.cell? ⟨g, 0, none⟩ = some (.int .i64 D.1) ∧ a.cell? ⟨g, 1, none⟩ = some (.int .i64 D.2.1) ∧ a.cell? ⟨g, 2, none⟩ = some (.int .i64 D.2.2.1) ∧ a.cell? ⟨g, 3, none⟩ = some (.int .i64 D.2.2.2)) ∧ (a.cell? ⟨h, 0, none⟩ = some (.int .i64 C.1) ∧ a.cell? ⟨h, 1, none⟩ = some (.int .i64 C.2.1) ∧ a.cell? ⟨h, 2, none⟩ = some (.int .i64 C.2.2.1) ∧ a.cell? ⟨h, 3, none⟩ = some (.int .i64 C.2.2.2))))
    (hH : H < a.heap.size) (hg : g < a.heap.size) (hh : h < a.heap.size) (b : Below a.heap.size a w') :
    w'.cell? ⟨H, 2, none⟩ = some x2 ∧ w'.cell? ⟨H, 3, none⟩ = some x3 ∧ w'.cell? ⟨g, 0, none⟩ = some (.int .i64 D.1) ∧ w'.cell? ⟨g, 1, none⟩ = some (.int .i64 D.2.1) ∧ w'.cell? ⟨g, 2, none⟩ = some (.int .i64 D.2.2.1) ∧ w'.cell? ⟨g, 3, none⟩ = some (.int .i64 D.2.2.2) ∧ w'.cell? ⟨h, 0, none⟩ = some (.int .i64 C.1) ∧ w'.cell? ⟨h, 1, none⟩ = some (.int .i64 C.2.1) ∧ w'.cell? ⟨h, 2, none⟩ = some (.int .i64 C.2.2.1) ∧ w'.cell? ⟨h, 3, none⟩ = some (.int .i64 C.2.2.2) := by
  obtain ⟨_, _, l2, l3⟩ := L.out
  obtain ⟨⟨y0, y1, y2, y3⟩, z0, z1, z2, z3⟩ := S.out
  exact ⟨(b.cell hH).trans l2, (b.cell hH).trans l3, (b.cell hg).trans y0, (b.cell hg).trans y1, (b.cell hg).trans y2, (b.cell hg).trans y3, (b.cell hh).trans z0, (b.cell hh).trans z1, (b.cell hh).trans z2, (b.cell hh).trans z3⟩
theorem parts_set {w' : World} {H g h b k : Nat} {v x2 x3 y0 y1 y2 y3 z0 z1 z2 z3 : Value} (s : w'.cell? ⟨H, 2, none⟩ = some x2 ∧ w'.cell? ⟨H, 3, none⟩ = some x3 ∧ w'.cell? ⟨g, 0, none⟩ = some y0 ∧ w'.cell? ⟨g, 1, none⟩ = some y1 ∧ w'.cell? ⟨g, 2, none⟩ = some y2 ∧ w'.cell? ⟨g, 3, none⟩ = some y3 ∧ w'.cell? ⟨h, 0, none⟩ = some z0 ∧ w'.cell? ⟨h, 1, none⟩ = some z1 ∧ w'.cell? ⟨h, 2, none⟩ = some z2 ∧ w'.cell? ⟨h, 3, none⟩ = some z3) (h1 : b ≠ H) (h2 : b ≠ g) (h3 : b ≠ h) :
    (w'.setCell ⟨b, k, none⟩ v).cell? ⟨H, 2, none⟩ = some x2 ∧ (w'.setCell ⟨b, k, none⟩ v).cell? ⟨H, 3, none⟩ = some x3 ∧ (w'.setCell ⟨b, k, none⟩ v).cell? ⟨g, 0, none⟩ = some y0 ∧ (w'.setCell ⟨b, k, none⟩ v).cell? ⟨g, 1, none⟩ = some y1 ∧ (w'.setCell ⟨b, k, none⟩ v).cell? ⟨g, 2, none⟩ = some y2 ∧ (w'.setCell ⟨b, k, none⟩ v).cell? ⟨g, 3, none⟩ = some y3 ∧ (w'.setCell ⟨b, k, none⟩ v).cell? ⟨h, 0, none⟩ = some z0 ∧ (w'.setCell ⟨b, k, none⟩ v).cell? ⟨h, 1, none⟩ = some z1 ∧ (w'.setCell ⟨b, k, none⟩ v).cell? ⟨h, 2, none⟩ = some z2 ∧ (w'.setCell ⟨b, k, none⟩ v).cell? ⟨h, 3, none⟩ = some z3 := by
  have e : ∀ (q j : Nat), b ≠ q → (w'.setCell ⟨b, k, none⟩ v).cell? ⟨q, j, none⟩ = w'.cell? ⟨q, j, none⟩ := fun q j hq => World.cell?_setCell_other _ _ _ _ (by intro hc; injection hc with hc; exact hq hc)
  rw [e _ _ h1, e _ _ h1, e _ _ h2, e _ _ h2, e _ _ h2, e _ _ h2, e _ _ h3, e _ _ h3, e _ _ h3, e _ _ h3]
  exact s
theorem parts_own {w : World} {base n c : Nat} {A : Option Addr} {l : List Int} (h : Own base w (.slice A n c) l) (_ : l.length = n) : Ints w A l := by
  obtain ⟨A', c', e, _, hi⟩ := h.form
  injection e with e
  rw [e]; exact hi
def PartsPost (w : World) (t x : List Int) (d c : Int × Int × Int × Int) (n1 n2 : Nat) (e : Ending) (w' : World) : Prop :=
  ∃ A1 c1 A2 c2, e = .returned (.tuple #[.slice A1 n1 c1, wordT d, wordT c, .slice A2 n2 c2]) ∧ Ints w' A1 (wordsF c.1 c.2.1 c.2.2.1 c.2.2.2 t n1) ∧ Ints w' A2 (wordsF d.1 d.2.1 d.2.2.1 d.2.2.2 x n2) ∧ Below w.heap.size w w'
set_option maxRecDepth 100000 in
set_option maxHeartbeats 2000000 in
theorem ln_parts (dn cn most : Int) (A B : Option Addr) (t x : List Int) (ca cb : Nat) (w : World) (ht : Ints w A t) (hx : Ints w B x) (tl : t.length ≤ 9223372036854775807) (xl : x.length ≤ 9223372036854775807) (m0 : 0 ≤ most) (m1 : most ≤ 1000) :
    Calls Try.prog 7 #[.agg #[.int .i64 dn, .int .i64 cn, .slice A t.length ca, .slice B x.length cb], .int .i64 most] w (PartsPost w t x (mkW dn 6 12 2) (mkW cn 6 9 1) (withinF t.length (most + 1)).toNat (min x.length 40)) := by
  go_enter Try.func7, Try.ntmps7
  go_upto_region 1 with fail
  generalize hW : ((w.alloc (.cells #[.int .i64 dn, .int .i64 cn, .slice A t.length ca, .slice B x.length cb] 24)).alloc (.cells #[.int .i64 0, .int .i64 0, .int .i64 0, .int .i64 0] 26)).alloc (.cells #[.int .i64 0, .int .i64 0, .int .i64 0, .int .i64 0] 26) = W3
  have hW3 : W3.heap.size = w.heap.size + 3 := by rw [← hW]; simp
  have hWB : Below w.heap.size w W3 := by rw [← hW]; exact (((Below.refl _ _).alloc (Nat.le_refl _) _).alloc (by simp) _).alloc (by simp; omega) _
  have HL : Hid (W3.cell? ⟨w.heap.size, 0, none⟩ = some (.int .i64 dn) ∧ W3.cell? ⟨w.heap.size, 1, none⟩ = some (.int .i64 cn) ∧ W3.cell? ⟨w.heap.size, 2, none⟩ = some (.slice A t.length ca) ∧ W3.cell? ⟨w.heap.size, 3, none⟩ = some (.slice B x.length cb)) := by
    rw [← hW]; exact ⟨by simp [go_sem], by simp [go_sem], by simp [go_sem], by simp [go_sem]⟩
  have HZ1 : Hid (Z4 W3 (w.heap.size + 1)) := by show Z4 W3 _; rw [← hW]; exact (Z4.new (by simp)).alloc _
  have HZ2 : Hid (Z4 W3 (w.heap.size + 2)) := by show Z4 W3 _; rw [← hW]; exact Z4.new (by simp)
  have HB := Lib.hid hWB
  have HW3 := Lib.hid hW3
  have hlt3 : w.heap.size + 3 ≤ W3.heap.size := by omega
  have hw3 : W3.heap.size ≤ w.heap.size + 3 := by omega
  clear hW hWB hW3
  have hb := Below.refl (w.heap.size + 3) W3
  go_cut [8, 9] (fun s8 s9 wx => ∃ g h : Nat, s8 = .pointer (some ⟨g, 0, none⟩) ∧ s9 = .pointer (some ⟨h, 0, none⟩) ∧ Box4 wx g (mkW dn 6 12 2) ∧ Box4 wx h (mkW cn 6 9 1) ∧ w.heap.size + 3 ≤ g ∧ w.heap.size + 3 ≤ h ∧ Below (w.heap.size + 3) W3 wx)
  case first =>
    --[a
    go_region_held3 (fun w' => (w'.cell? ⟨w.heap.size, 0, none⟩ = some (.int .i64 dn) ∧ w'.cell? ⟨w.heap.size, 1, none⟩ = some (.int .i64 cn) ∧ w'.cell? ⟨w.heap.size, 2, none⟩ = some (.slice A t.length ca) ∧ w'.cell? ⟨w.heap.size, 3, none⟩ = some (.slice B x.length cb)))
      (exact lineS (B := w.heap.size + 3) (by omega) HL.out (by go_grown))
      (first
        | (go_at_call 20; refine (wd_Data _ _).mono ?_; rintro e w1 ⟨rfl, hb1⟩; have hb : Below (w.heap.size + 3) W3 w1 := Below.trans (by go_grown) (hb1.mono (by go_size)); have hlt4 : w.heap.size + 3 ≤ w1.heap.size := Nat.le_trans hlt3 hb.size; obtain ⟨hc, hf⟩ := bcell hb1; have hs := hb1.size; (try simp only [World.size_alloc, World.size_drew] at hs); (try have hs2 := Nat.lt_of_succ_le hs); (try have hs3 := Nat.lt_of_succ_lt hs2); (try have ha : W3.heap.size < w1.heap.size := by omega); (try have hab : W3.heap.size + 1 < w1.heap.size := by omega); (try (have kq : Z4 w1 W3.heap.size := by (refine Z4.keep ?_ hb1; (first | ((repeat' (first | (with_reducible assumption) | (with_reducible refine Z4.alloc ?_ _) | (with_reducible refine Z4.drew ?_))); done) | ((repeat' (first | (with_reducible rfl) | (with_reducible refine Z4.drew ?_) | (with_reducible refine Z4.new ?_) | (simp; done))); done) | ((repeat (with_reducible refine Z4.drew ?_)); (with_reducible refine Z4.alloc ?_ _); (repeat' (first | (with_reducible rfl) | (with_reducible refine Z4.drew ?_) | (with_reducible refine Z4.new ?_) | (simp; done))); done))))); (try (have kq2 := kq; unfold Z4 zeroes at kq2; obtain ⟨_, ⟨q0, q1, q2, q3⟩, p0, p1, p2, p3⟩ := kq2)); (try (have kr : Z4 w1 (W3.heap.size + 1) := by (refine Z4.keep ?_ hb1; (first | ((repeat' (first | (with_reducible assumption) | (with_reducible refine Z4.alloc ?_ _) | (with_reducible refine Z4.drew ?_))); done) | ((repeat' (first | (with_reducible rfl) | (with_reducible refine Z4.drew ?_) | (with_reducible refine Z4.new ?_) | (simp; done))); done) | ((repeat (with_reducible refine Z4.drew ?_)); (with_reducible refine Z4.alloc ?_ _); (repeat' (first | (with_reducible rfl) | (with_reducible refine Z4.drew ?_) | (with_reducible refine Z4.new ?_) | (simp; done))); done))))); (try (have kr2 := kr; unfold Z4 zeroes at kr2; obtain ⟨_, ⟨r0, r1, r2, r3⟩, s0, s1, s2, s3⟩ := kr2)); (try (have kp := Z4.keep (Z4.new rfl) hb1; (try simp only [World.size_alloc, World.size_drew] at kp))); (try (have kp2 := Z4.keep (Z4.alloc (Z4.new rfl) _) hb1; (try simp only [World.size_alloc, World.size_drew] at kp2))))
        | (go_at_call 21; refine (wd_Coef _ _).mono ?_; rintro e w1 ⟨rfl, hb1⟩; have hb : Below (w.heap.size + 3) W3 w1 := Below.trans (by go_grown) (hb1.mono (by go_size)); have hlt4 : w.heap.size + 3 ≤ w1.heap.size := Nat.le_trans hlt3 hb.size; obtain ⟨hc, hf⟩ := bcell hb1; have hs := hb1.size; (try simp only [World.size_alloc, World.size_drew] at hs); (try have hs2 := Nat.lt_of_succ_le hs); (try have hs3 := Nat.lt_of_succ_lt hs2); (try have ha : W3.heap.size < w1.heap.size := by omega); (try have hab : W3.heap.size + 1 < w1.heap.size := by omega); (try (have kq : Z4 w1 W3.heap.size := by (refine Z4.keep ?_ hb1; (first | ((repeat' (first | (with_reducible assumption) | (with_reducible refine Z4.alloc ?_ _) | (with_reducible refine Z4.drew ?_))); done) | ((repeat' (first | (with_reducible rfl) | (with_reducible refine Z4.drew ?_) | (with_reducible refine Z4.new ?_) | (simp; done))); done) | ((repeat (with_reducible refine Z4.drew ?_)); (with_reducible refine Z4.alloc ?_ _); (repeat' (first | (with_reducible rfl) | (with_reducible refine Z4.drew ?_) | (with_reducible refine Z4.new ?_) | (simp; done))); done))))); (try (have kq2 := kq; unfold Z4 zeroes at kq2; obtain ⟨_, ⟨q0, q1, q2, q3⟩, p0, p1, p2, p3⟩ := kq2)); (try (have kr : Z4 w1 (W3.heap.size + 1) := by (refine Z4.keep ?_ hb1; (first | ((repeat' (first | (with_reducible assumption) | (with_reducible refine Z4.alloc ?_ _) | (with_reducible refine Z4.drew ?_))); done) | ((repeat' (first | (with_reducible rfl) | (with_reducible refine Z4.drew ?_) | (with_reducible refine Z4.new ?_) | (simp; done))); done) | ((repeat (with_reducible refine Z4.drew ?_)); (with_reducible refine Z4.alloc ?_ _); (repeat' (first | (with_reducible rfl) | (with_reducible refine Z4.drew ?_) | (with_reducible refine Z4.new ?_) | (simp; done))); done))))); (try (have kr2 := kr; unfold Z4 zeroes at kr2; obtain ⟨_, ⟨r0, r1, r2, r3⟩, s0, s1, s2, s3⟩ := kr2)); (try (have kp := Z4.keep (Z4.new rfl) hb1; (try simp only [World.size_alloc, World.size_drew] at kp))); (try (have kp2 := Z4.keep (Z4.alloc (Z4.new rfl) _) hb1; (try simp only [World.size_alloc, World.size_drew] at kp2)))))
    all_goals
      go_wp2_with fail
      go_meet
      refine ⟨_, _, rfl, rfl, ?_, ?_, ?_, ?_, ?_⟩
    all_goals try omega
    all_goals try ((repeat (first | (with_reducible assumption) | ((with_reducible refine Box4.new ?_); (first | (with_reducible rfl) | (simp; done))) | (with_reducible refine Box4.set ?_) | (with_reducible refine Box4.past ?_ (by omega)) | (with_reducible refine Box4.alloc ?_ _) | (with_reducible refine Z4.past ?_ (by omega)) | (with_reducible refine Z4.alloc ?_ _))); done)
    all_goals try (go_grown; done)
    --]a
  case rest =>
    obtain ⟨g, h, rfl, rfl, hg, hh, hg3, hh3, hbx⟩ := hcut
    have HLx := Lib.hid (lineS (B := w.heap.size + 3) (by omega) HL.out hbx)
    have hz1 := HZ1.out.keep (hbx.mono hw3)
    have hz2 := HZ2.out.keep (hbx.mono hw3)
    have HS : Hid ((wc.cell? ⟨g, 0, none⟩ = some (.int .i64 (mkW dn 6 12 2).1) ∧ wc.cell? ⟨g, 1, none⟩ = some (.int .i64 (mkW dn 6 12 2).2.1) ∧ wc.cell? ⟨g, 2, none⟩ = some (.int .i64 (mkW dn 6 12 2).2.2.1) ∧ wc.cell? ⟨g, 3, none⟩ = some (.int .i64 (mkW dn 6 12 2).2.2.2)) ∧ (wc.cell? ⟨h, 0, none⟩ = some (.int .i64 (mkW cn 6 9 1).1) ∧ wc.cell? ⟨h, 1, none⟩ = some (.int .i64 (mkW cn 6 9 1).2.1) ∧ wc.cell? ⟨h, 2, none⟩ = some (.int .i64 (mkW cn 6 9 1).2.2.1) ∧ wc.cell? ⟨h, 3, none⟩ = some (.int .i64 (mkW cn 6 9 1).2.2.2))) := ⟨hg.2, hh.2⟩
    have glt := hg.1
    have hlt := hh.1
    have hs0 : w.heap.size + 3 ≤ wc.heap.size := Nat.le_trans hlt3 hbx.size
    have hBw : Below w.heap.size w wc := HB.out.trans (hbx.mono (by omega))
    have htc := ht.grow hBw
    have hxc := hx.grow hBw
    have HBW := Lib.hid hBw
    obtain ⟨n1, hn1⟩ : ∃ n1 : Nat, withinF t.length (most + 1) = n1 := Int.eq_ofNat_of_zero_le (within_in (by omega) _).1
    have hn1b : n1 ≤ 1000000 := by have := (within_in (m := most + 1) (by omega) (t.length : Int)).2; omega
    have hwi : ∀ w, Calls Try.prog 8 #[.int .i64 t.length, .int .i64 (most + 1)] w fun e w' => e = .returned (.int .i64 n1) ∧ w = w' := fun w => by rw [← hn1]; exact wd_Within _ _ w (by omega)
    have hn1' : (withinF t.length (most + 1)).toNat = n1 := by rw [hn1]; simp
    have HN1 := Lib.hid hn1'
    have HWI := Lib.hid hwi
    obtain ⟨n2, hn2⟩ : ∃ n2, min x.length 40 = n2 := ⟨_, rfl⟩
    have e1 : IntKind.i64.wrap (most + 1) = most + 1 := IntWalk.i64_in _ (by omega)
    have HN2 := Lib.hid hn2
    obtain ⟨D, hD⟩ : ∃ D, mkW dn 6 12 2 = D := ⟨_, rfl⟩
    obtain ⟨C, hC⟩ : ∃ C, mkW cn 6 9 1 = C := ⟨_, rfl⟩
    rw [hD, hC] at HS
    have HD := Lib.hid hD
    have HC := Lib.hid hC
    have hn2b : n2 ≤ 1000000 := by omega
    have hbc : Below wc.heap.size wc wc.drew := Below.drew (Below.refl wc.heap.size wc)
    have hsz : wc.heap.size ≤ wc.drew.heap.size := Nat.le_refl _
    clear hn1 hn1' hwi hD hC hbx hg hh hBw ht hx hb
    have hx2 : (if 40 < (x.length : Int) then 40 else (x.length : Int)) = (n2 : Int) := by have := HN2.out; split <;> omega
    have HWX : Hid (∀ w0 : World, Ints w0 B x → Calls Try.prog 22 #[wordV D.1 D.2.1 D.2.2.1 D.2.2.2, .slice B x.length cb, .int .i64 (if 40 < (x.length : Int) then 40 else (x.length : Int))] w0 fun e w' => ∃ v, e = .returned v ∧ Own w0.heap.size w' v (wordsF D.1 D.2.1 D.2.2.1 D.2.2.2 x n2) ∧ Below w0.heap.size w0 w') := by
      intro w0 h0
      rw [hx2]
      exact wd_Words _ _ _ _ B x cb n2 w0 hn2b h0
    by_cases h40 : 40 < (x.length : Int)
    all_goals
      have HWX := HWX.out
      first | rw [if_pos h40] at HWX | rw [if_neg h40] at HWX
      try have h41 : (40 < (x.length : Int)) = False := eq_false h40
      have HWX := Lib.hid HWX
      clear hx2 hn2
      go_wp2_with fail
      go_region_held3 (fun w' => (w'.cell? ⟨w.heap.size, 2, none⟩ = some (.slice A t.length ca) ∧ w'.cell? ⟨w.heap.size, 3, none⟩ = some (.slice B x.length cb) ∧ w'.cell? ⟨g, 0, none⟩ = some (.int .i64 D.1) ∧ w'.cell? ⟨g, 1, none⟩ = some (.int .i64 D.2.1) ∧ w'.cell? ⟨g, 2, none⟩ = some (.int .i64 D.2.2.1) ∧ w'.cell? ⟨g, 3, none⟩ = some (.int .i64 D.2.2.2) ∧ w'.cell? ⟨h, 0, none⟩ = some (.int .i64 C.1) ∧ w'.cell? ⟨h, 1, none⟩ = some (.int .i64 C.2.1) ∧ w'.cell? ⟨h, 2, none⟩ = some (.int .i64 C.2.2.1) ∧ w'.cell? ⟨h, 3, none⟩ = some (.int .i64 C.2.2.2)))
        (((repeat (with_reducible refine parts_set ?_ (by omega) (by omega) (by omega))); (with_reducible exact partsS HLx HS (by omega) glt hlt hbc)))
        (first
          | (go_at_call 8; refine (HWI.out _).mono ?_; rintro e w1 ⟨rfl, rfl⟩)
          | (go_at_call 22; (with_reducible refine (wd_Words C.1 C.2.1 C.2.2.1 C.2.2.2 A t ca n1 _ hn1b (htc.grow hbc)).mono ?_); rintro e w1 ⟨v1, rfl, ho1, hb1⟩; have ho1 := ho1.base hsz; have hbc := hbc.trans (hb1.mono hsz); have hsz := Nat.le_trans hsz hb1.size)
          | (go_at_call 22; (with_reducible refine (HWX.out _ (hxc.grow hbc)).mono ?_); rintro e w1 ⟨v2, rfl, ho2, hb1⟩; have ho2 := ho2.base hsz; have hbc := hbc.trans (hb1.mono hsz); have hsz := Nat.le_trans hsz hb1.size; have ho1 := ho1.grow hb1; obtain ⟨_, ⟨q0, q1, q2, q3⟩, p0, p1, p2, p3⟩ := hz1.keep hbc; obtain ⟨_, ⟨r0, r1, r2, r3⟩, s0, s1, s2, s3⟩ := hz2.keep hbc))
      all_goals
        obtain ⟨A1, c1, rfl, _, _⟩ := ho1.form
        obtain ⟨A2, c2, rfl, _, _⟩ := ho2.form
        have L1 := wordsF_length C.1 C.2.1 C.2.2.1 C.2.2.2 t n1
        have L2 := wordsF_length D.1 D.2.1 D.2.2.1 D.2.2.2 x n2
        rw [L1] at ho1
        rw [L2] at ho2
        have HO1 := Lib.hid ho1
        have HO2 := Lib.hid ho2
        have hwb : w.heap.size + 2 < w1.heap.size := by omega
        clear ho1 ho2
        rw [L1, L2]
        go_wp2_with fail
        refine bodyPost_ret (v := .tuple #[.slice A1 n1 c1, wordT D, wordT C, .slice A2 n2 c2]) (by simp [results, Try.results7, go_sem, q0, q1, q2, q3, r0, r1, r2, r3]) rfl ?_
        rw [HD.out, HC.out, HN1.out, HN2.out]
        refine ⟨A1, c1, A2, c2, rfl, ?_, ?_, ?_⟩
        · exact parts_own (base := wc.heap.size) (c := c1) (by (repeat (with_reducible refine Own.store ?_ (by omega))); exact HO1.out) L1
        · exact parts_own (base := wc.heap.size) (c := c2) (by (repeat (with_reducible refine Own.store ?_ (by omega))); exact HO2.out) L2
        · have hbf := HBW.out.trans (hbc.mono (by omega))
          go_grown
end Go.Proofs.Ytlomhaabiodofaa
