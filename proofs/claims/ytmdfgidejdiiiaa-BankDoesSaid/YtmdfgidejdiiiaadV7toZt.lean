/- Several texts in one: V7 V8 V9 Ve G4 Va Vb Vc U U3 U5 Zt. -/
import Derived.Test.YtmdfgidejdiiiaadV4toV6
import Derived.Test.YtmdfgidejdiiiaadFxtoV1
import Derived.Test.YtmdfgidejdiiiaadPltoAs
import Derived.Deep.RegionHeld3
import Derived.Maps.AppendAt
import Derived.Test.YtmdfgidejdiiiaadJ2toVp
import Derived.Deep.DeepCutAuto
import Derived.Handy
import Derived.Deep.MidRow
import Derived.Test.YtmdfgidejdiiiaadZstoV3
set_option linter.unusedVariables false
set_option linter.unusedSimpArgs false
section
namespace Go.Proofs.Ytmdfgidejdiiiaa
open Go.RowKit
def syE (ls : List Lft) (a b : List Int) : Int := needV (needV (needV (needV 0 (lftsB ls) 2) ((a.length : Int) == (b.length : Int)) 1) (decide (a.length + b.length ≤ 4096)) 4) (a.all wB && b.all wB) 17
def syX (ls : List Lft) (a b : List Int) : List Int := if syE ls a b = 0 then synthF ls a b else []
theorem syE_zero {ls : List Lft} {a b : List Int} (h : syE ls a b = 0) : lftsB ls = true ∧ a.length = b.length ∧ a.length + b.length ≤ 4096 ∧ W32 a ∧ W32 b := by
  unfold syE at h
  obtain ⟨h, h4⟩ := need_zero (by decide) h
  obtain ⟨h, h3⟩ := need_zero (by decide) h
  obtain ⟨h, h2⟩ := need_zero (by decide) h
  obtain ⟨_, h1⟩ := need_zero (by decide) h
  rw [Bool.and_eq_true] at h4
  refine ⟨h1, ?_, of_decide_eq_true h3, wB_iff.1 h4.1, wB_iff.1 h4.2⟩
  rw [beq_iff_eq] at h2
  omega
theorem IntsFar.two {w : World} {q : Nat} {A B : Option Addr} {a b : List Int} {c d : Nat} {t : TypeId} (h : Ints w A a) (k : Ints w B b) (hq : q < w.heap.size) (ha : a ≠ [] → ∀ p, A = some p → p.block ≠ q) (hb : b ≠ [] → ∀ p, B = some p → p.block ≠ q) :
    IntsFar (w.alloc (.cells #[.slice A a.length c, .slice B b.length d] t)) q (some ⟨w.heap.size, 0, none⟩) [a, b] := fun n l' hk => by
  match n, hk with
  | 0, hk =>
    simp at hk
    subst hk
    exact ⟨_, A, c, rfl, by show w.heap.size ≠ q; omega, by simp [Addr.add, go_sem], h.grow ((Below.refl _ _).alloc (Nat.le_refl _) _), ha⟩
  | 1, hk =>
    simp at hk
    subst hk
    exact ⟨_, B, d, rfl, by show w.heap.size ≠ q; omega, by simp [Addr.add, go_sem], k.grow ((Below.refl _ _).alloc (Nat.le_refl _) _), hb⟩
set_option maxRecDepth 100000 in
set_option maxHeartbeats 2000000 in
theorem bk_Synthesise (A B C : Option Addr) (ls : List Lft) (x y : List Int) (c d e : Nat) (w : World) (hL : Lifts w A ls) (hx : Ints w B x) (hy : Ints w C y) (hl : ls.length ≤ 1000000) (hl2 : ∀ s ∈ ls, s.2.2.1.length ≤ 9223372036854775807) (hxl : x.length ≤ 1000000) (hyl : y.length ≤ 1000000) :
    Calls Try.prog 19 #[.slice A ls.length c, .slice B x.length d, .slice C y.length e] w (RetInts w (syX ls x y) (syE ls x y)) := by
  have hfar : x ≠ [] → ∀ a, B = some a → a.block ≠ w.heap.size + 1 := fun hc a e => by have := hx.block hc e; omega
  have hfar2 : y ≠ [] → ∀ a, C = some a → a.block ≠ w.heap.size + 1 := fun hc a e => by have := hy.block hc e; omega
  have HFAR := Lib.hid hfar
  have HFAR2 := Lib.hid hfar2
  clear hfar hfar2
  have HL2 := Lib.hid hl2
  have h0 : Below w.heap.size w ((w.alloc (.cells #[.int .i64 0] 40)).alloc (.cells #[.int .i64 0] 89)) := ((Below.refl _ _).alloc (Nat.le_refl _) _).alloc (by simp) _
  have k0 : CheckAt ((w.alloc (.cells #[.int .i64 0] 40)).alloc (.cells #[.int .i64 0] 89)) w.heap.size 0 := ⟨by simp [go_sem], by simp [go_sem]⟩
  have k1 : CheckAt ((w.alloc (.cells #[.int .i64 0] 40)).alloc (.cells #[.int .i64 0] 89)) (w.heap.size + 1) 0 := ⟨by simp [go_sem], by simp [go_sem]⟩
  have H0 := Lib.hid h0
  have K0 := Lib.hid k0
  have K1 := Lib.hid k1
  clear h0 k0 k1 hl2
  go_enter_defers Try.func19, Try.ntmps19
  go_wp2_with fail
  refine (bk_Valid A ls c _ (hL.grow H0.out) hl HL2.out).mono ?_
  rintro e' w1 ⟨rfl, hb1⟩
  have hb := H0.out.trans (hb1.mono H0.out.size)
  have hk0 := K0.out.keep hb1
  have hk1 := K1.out.keep hb1
  clear hb1 K0 K1 H0
  go_wp2_with fail
  refine (bk_need (w.heap.size + 1) 0 2 _ _ hk1 (by decide)).mono ?_
  rintro e' w2 ⟨rfl, hk1, hg⟩
  have hb := grown_to hb hg (by omega)
  have hk0 := hk0.kept hg (by omega)
  clear hg
  go_wp2_with fail
  refine (bk_need (w.heap.size + 1) _ 1 _ _ hk1 (by decide)).mono ?_
  rintro e' w3 ⟨rfl, hk1, hg⟩
  have hb := grown_to hb hg (by omega)
  have hk0 := hk0.kept hg (by omega)
  clear hg
  go_wp2_with fail
  refine (bk_need (w.heap.size + 1) _ 4 _ _ hk1 (by decide)).mono ?_
  rintro e' w4 ⟨rfl, hk1, hg⟩
  have hb := grown_to hb hg (by omega)
  have hk0 := hk0.kept hg (by omega)
  clear hg
  go_wp2_with fail
  have ha : Below w.heap.size w (w4.alloc (.cells #[.slice B x.length d, .slice C y.length e] 33)) := hb.alloc hb.size _
  have hba : Below w4.heap.size w4 (w4.alloc (.cells #[.slice B x.length d, .slice C y.length e] 33)) := (Below.refl _ _).alloc (Nat.le_refl _) _
  have hfar4 := IntsFar.two (c := d) (d := e) (t := 33) (hx.grow hb) (hy.grow hb) (q := w.heap.size + 1) (cell_lt hk1.1) HFAR.out HFAR2.out
  have hk1 := hk1.keep hba
  have hk0 := hk0.keep hba
  clear hb hba
  refine (bk_words (w.heap.size + 1) _ _ [x, y] 2 2 _ hk1 hfar4 rfl (by omega) (by simp; omega)).mono ?_
  rintro e' w5 ⟨rfl, hk1, hg⟩
  have hb := grown_to ha hg (by omega)
  have hk0 := hk0.kept hg (by omega)
  clear hg ha hfar4
  obtain ⟨K, hK⟩ : ∃ K, needV (needV (needV (needV 0 (lftsB ls) 2) ((x.length : Int) == (y.length : Int)) 1) (decide ((x.length : Int) + (y.length : Int) ≤ 4096)) 4) ([x, y].all fun l => l.all wB) 17 = K := ⟨_, rfl⟩
  rw [hK] at hk1 ⊢
  have hKE : syE ls x y = K := by
    rw [← hK]
    unfold syE
    rw [List.all_cons, List.all_cons, List.all_nil, Bool.and_true]
    congr 2
    rw [decide_eq_decide]; omega
  have HKE := Lib.hid hKE
  clear hKE hK
  by_cases hz : K = 0
  · subst hz
    obtain ⟨z1, z2, z3, z4, z5⟩ := syE_zero HKE.out
    have Z := Lib.hid (lfts_ok z1)
    have Z2 := Lib.hid z2
    have Z3 := Lib.hid z3
    have Z4 := Lib.hid z4
    have Z5 := Lib.hid z5
    have HL := Lib.hid (hL.grow hb)
    have HX := Lib.hid (hx.grow hb)
    have HY := Lib.hid (hy.grow hb)
    clear z1 z2 z3 z4 z5 hL hx hy
    rw [decide_eq_true (show (0 : Int) = 0 from rfl)]
    go_wp2_with fail
    refine (bk_synthesise A B C ls x y c d e x.length _ HL.out HX.out HY.out Z.out.2 Z.out.1 rfl Z2.out.symm (by have := Z3.out; have := Z2.out; omega) Z4.out Z5.out).mono ?_
    rintro e' w6 ⟨v1, rfl, o1, hb6⟩
    have O1 := Lib.hid o1
    have HB := Lib.hid hb
    have H6 := Lib.hid (hb.trans (hb6.mono hb.size))
    have H5 := Lib.hid (cell_lt hk1.1)
    have e0 := hk0.keep hb6
    have e1 := hk1.keep hb6
    clear hk0 hk1 hb6 o1 hb
    have c0 := e0.1
    have f0 := e0.2
    have E1 := Lib.hid e1
    have E0 := Lib.hid e0
    clear e0 e1
    go_wp2
    go_region
    first | go_end0 | go_wp2
    refine leaves_cons (f := 64) (args := #[.pointer (some ⟨w.heap.size + 1, 0, none⟩), .pointer (some ⟨w.heap.size, 0, none⟩)]) (by simp) (by simp [go_sem]) ?_
    refine (bk_report (w.heap.size + 1) w.heap.size 0 0 .returning _ ?_ ?_ ?_).mono ?_
    · show (w6.setCell _ _).cell? _ = _
      rw [World.cell?_setCell_other (h := by intro e; have := congrArg Addr.block e; simp at this)]; exact E1.out.1
    · exact (E0.out.set 0).1
    · exact (E0.out.set 0).2
    rintro e' u' w'' ⟨rfl, rfl, rfl⟩
    refine ⟨.tuple #[v1, .int .i64 0], ?_, ?_⟩
    · have hcc := ((E0.out.set 0).set 0).1
      simp [go_sem, results, Try.results19, hcc]
    · unfold syX
      rw [HKE.out, if_pos rfl]
      have hs := HB.out.size
      have h5 := H5.out
      refine ⟨v1, rfl, ((O1.out.store (by omega)).store (by omega)).base hs, ?_⟩
      exact ((H6.out.setCell (Nat.le_refl _) _).drew).setCell (Nat.le_refl _) _
  · have c0 := hk0.1
    have f0 := hk0.2
    have E1 := Lib.hid hk1
    have E0 := Lib.hid hk0
    have HB := Lib.hid hb
    have HZ := Lib.hid hz
    clear hk0 hk1 hb hL hx hy
    rw [decide_eq_false hz]
    clear hz
    go_wp2
    go_region
    first | go_end0 | go_wp2
    refine leaves_cons (f := 64) (args := #[.pointer (some ⟨w.heap.size + 1, 0, none⟩), .pointer (some ⟨w.heap.size, 0, none⟩)]) (by simp) (by simp [go_sem]) ?_
    refine (bk_report (w.heap.size + 1) w.heap.size K 0 .returning _ ?_ ?_ ?_).mono ?_
    · show (w5.setCell _ _).cell? _ = _
      rw [World.cell?_setCell_other (h := by intro e; have := congrArg Addr.block e; simp at this)]; exact E1.out.1
    · exact (E0.out.set 0).1
    · exact (E0.out.set 0).2
    rintro e' u' w'' ⟨rfl, rfl, rfl⟩
    refine ⟨.tuple #[.slice none 0 0, .int .i64 K], ?_, ?_⟩
    · have hcc := ((E0.out.set 0).set K).1
      simp [go_sem, results, Try.results19, hcc]
    · unfold syX
      rw [HKE.out, if_neg HZ.out]
      refine ⟨_, rfl, Own.nil, ?_⟩
      exact ((HB.out.setCell (Nat.le_refl _) _).drew).setCell (Nat.le_refl _) _
end Go.Proofs.Ytmdfgidejdiiiaa
end
section
namespace Go.Proofs.Ytmdfgidejdiiiaa
open Go.RowKit
theorem Lifts.lit2 {w : World} {n g1 g2 : Nat} {b1 b2 : Bool} {s1 s2 h1 h2 : Int} {c1 c2 : List Int} {d1 d2 : Nat} {t : TypeId} (hn : n = w.heap.size) (i1 : Ints w (some ⟨g1, 0, none⟩) c1) (i2 : Ints w (some ⟨g2, 0, none⟩) c2) (a1 : I64 s1) (a2 : I64 s2) (a3 : I64 h1) (a4 : I64 h2) :
    Lifts (w.alloc (.cells #[.bool b1, .int .i64 s1, .slice (some ⟨g1, 0, none⟩) c1.length d1, .int .i64 h1, .bool b2, .int .i64 s2, .slice (some ⟨g2, 0, none⟩) c2.length d2, .int .i64 h2] t)) (some ⟨n, 0, none⟩) [(b1, s1, c1, h1), (b2, s2, c2, h2)] := fun k s hk => by
  subst hn
  match k, hk with
  | 0, hk =>
    simp at hk
    subst hk
    exact ⟨_, _, _, rfl, by simp, by simp [Addr.add, go_sem], by simp [Addr.add, go_sem], by simp [Addr.add, go_sem]; rfl, by simp [Addr.add, go_sem], i1.grow ((Below.refl _ _).alloc (Nat.le_refl _) _), a1, a3⟩
  | 1, hk =>
    simp at hk
    subst hk
    exact ⟨_, _, _, rfl, by simp, by simp [Addr.add, go_sem], by simp [Addr.add, go_sem], by simp [Addr.add, go_sem]; rfl, by simp [Addr.add, go_sem], i2.grow ((Below.refl _ _).alloc (Nat.le_refl _) _), a2, a4⟩
theorem rf_SameB (A B : Option Addr) (l m : List Int) (c d : Nat) (w : World) (hm : m.length ≤ 9223372036854775807) (he : l = m) (h : Ints w A l) (g : Ints w B m) :
    Calls Try.prog 25 #[.slice A l.length c, .slice B m.length d] w fun e w' => e = .returned (.bool true) ∧ Below w.heap.size w w' :=
  (rf_SameInts A B l m c d w hm h g).mono fun e w' hh => ⟨by rw [hh.1, he]; simp, hh.2⟩
theorem add_cellsB (g k : Nat) : (⟨g, 0, none⟩ : Addr).add k = ⟨g, k, none⟩ := by
  unfold Addr.add
  by_cases h0 : k = 0 <;> simp [h0]
theorem litB {w : World} {cs : Array Value} {t : TypeId} {l : List Int} (hc : cs.toList = l.map (Value.int .i64)) (hl : l.all (fun x => decide (-9223372036854775808 ≤ x) && decide (x ≤ 9223372036854775807)) = true) : Ints (w.alloc (.cells cs t)) (some ⟨w.heap.size, 0, none⟩) l := by
  refine ⟨?_, fun x hx => by have := List.all_eq_true.1 hl x hx; simp at this; exact this⟩
  rw [← hc]
  intro k v hk
  refine ⟨_, rfl, by simp, ?_⟩
  rw [add_cellsB]
  simpa [go_sem] using hk
theorem belowA {W w : World} {o : Obj} (h : Below W.heap.size W w) : Below W.heap.size W (w.alloc o) := h.alloc h.size _
theorem litBn {w : World} {n : Nat} {cs : Array Value} {t : TypeId} {l : List Int} (hn : n = w.heap.size) (hc : cs.toList = l.map (Value.int .i64)) (hl : l.all (fun x => decide (-9223372036854775808 ≤ x) && decide (x ≤ 9223372036854775807)) = true) : Ints (w.alloc (.cells cs t)) (some ⟨n, 0, none⟩) l := by
  subst hn; exact litB hc hl
set_option maxRecDepth 100000 in
set_option maxHeartbeats 400000 in
theorem known33 (w : World) : Calls Try.prog 16 #[] w fun e w' => e = .returned (.bool true) ∧ Below w.heap.size w w' := by
  have hb := Below.refl w.heap.size w
  go_enter Try.func16, Try.ntmps16
  go_wp2_with fail
  have H1 : Ints (w.alloc (.cells #[.int .i64 (-1)] 3)) (some ⟨w.heap.size, 0, none⟩) [-1] := litB rfl (by decide)
  have H1 := H1.grow (belowA (o := .cells #[.int .i64 1] 3) (Below.refl _ _))
  have H2 : Ints ((w.alloc (.cells #[.int .i64 (-1)] 3)).alloc (.cells #[.int .i64 1] 3)) (some ⟨w.heap.size + 1, 0, none⟩) [1] := litBn (by simp) rfl (by decide)
  have HL : Lifts (((w.alloc (.cells #[.int .i64 (-1)] 3)).alloc (.cells #[.int .i64 1] 3)).alloc (.cells #[.bool true, .int .i64 0, .slice (some ⟨w.heap.size, 0, none⟩) 1 1, .int .i64 0, .bool false, .int .i64 0, .slice (some ⟨w.heap.size + 1, 0, none⟩) 1 1, .int .i64 1] 64)) (some ⟨w.heap.size + 1 + 1, 0, none⟩) [(true, 0, [-1], 0), (false, 0, [1], 1)] := Lifts.lit2 (by simp) H1 H2 ⟨by decide, by decide⟩ ⟨by decide, by decide⟩ ⟨by decide, by decide⟩ ⟨by decide, by decide⟩
  have HL := HL.grow (belowA (o := .cells #[.int .i64 5, .int .i64 8] 3) (Below.refl _ _))
  have HX : Ints ((((w.alloc (.cells #[.int .i64 (-1)] 3)).alloc (.cells #[.int .i64 1] 3)).alloc (.cells #[.bool true, .int .i64 0, .slice (some ⟨w.heap.size, 0, none⟩) 1 1, .int .i64 0, .bool false, .int .i64 0, .slice (some ⟨w.heap.size + 1, 0, none⟩) 1 1, .int .i64 1] 64)).alloc (.cells #[.int .i64 5, .int .i64 8] 3)) (some ⟨w.heap.size + 1 + 1 + 1, 0, none⟩) [5, 8] := litBn (by simp) rfl (by decide)
  refine (bk_Analyse _ _ [(true, 0, [-1], 0), (false, 0, [1], 1)] [5, 8] 2 2 _ HL HX (by decide) (by decide) (by decide)).mono ?_
  rintro e w1 ⟨v1, v2, rfl, o1, o2, hb1⟩
  have hb := below_then (belowA (belowA (belowA (belowA hb)))) hb1
  have e1 : anLo [(true, 0, [-1], 0), (false, 0, [1], 1)] [5, 8] = [6] := by decide +kernel
  have e2 : anHi [(true, 0, [-1], 0), (false, 0, [1], 1)] [5, 8] = [3] := by decide +kernel
  have e3 : anE [(true, 0, [-1], 0), (false, 0, [1], 1)] [5, 8] = 0 := by decide +kernel
  rw [e1] at o1
  rw [e2] at o2
  rw [e3]
  obtain ⟨A1, c1, rfl, _, hi1⟩ := o1.form
  obtain ⟨A2, c2, rfl, _, hi2⟩ := o2.form
  clear hb1 HL HX H1 H2 e1 e2 e3 o1 o2
  go_wp2_with fail
  have hL : Ints (w1.alloc (.cells #[.int .i64 6] 3)) (some ⟨w1.heap.size, 0, none⟩) [6] := litB rfl (by decide)
  refine (rf_SameB _ _ [6] [6] _ _ _ (by decide) rfl (hi1.grow (belowA (Below.refl _ _))) hL).mono ?_
  rintro e w2 ⟨rfl, hb2⟩
  have hb := below_then (belowA hb) hb2
  have hi2 := hi2.grow (below_then (belowA (Below.refl _ _)) hb2)
  clear hb2 hL
  go_wp2_with fail
  have hL : Ints (w2.alloc (.cells #[.int .i64 3] 3)) (some ⟨w2.heap.size, 0, none⟩) [3] := litB rfl (by decide)
  refine (rf_SameB _ _ [3] [3] _ _ _ (by decide) rfl (hi2.grow (belowA (Below.refl _ _))) hL).mono ?_
  rintro e w3 ⟨rfl, hb3⟩
  have hb := below_then (belowA hb) hb3
  clear hb3 hL
  go_wp2
  go_ret
  exact ⟨rfl, hb⟩
end Go.Proofs.Ytmdfgidejdiiiaa
end
section
namespace Go.Proofs.Ytmdfgidejdiiiaa
open Go.RowKit
theorem own_cells {base n c size : Nat} {e : TypeId} {A : Option Addr} {w : World} {xs : List Value} (h : w.ownsRow base e size (.slice A n c) n xs) {k : Nat} {v : Value} (hk : xs[k]? = some v) :
    ∃ g, A = some ⟨g, 0, none⟩ ∧ g < w.heap.size ∧ w.cell? ⟨g, k, none⟩ = some v := by
  obtain ⟨h1, h2 | ⟨g, cap, cur, hv, hg, hh, _, _, hs, ht⟩⟩ := h
  · obtain ⟨_, rfl⟩ := h2
    have : xs = [] := List.length_eq_zero_iff.1 (by omega)
    subst this; simp at hk
  · injection hv with hA _ _
    have hlt : g < w.heap.size := by
      rcases Nat.lt_or_ge g w.heap.size with h | h
      · exact h
      · rw [Array.getElem?_eq_none h] at hh; cases hh
    refine ⟨g, hA, hlt, ?_⟩
    rw [← ht, List.getElem?_take] at hk
    split at hk
    · simp [World.cell?, hh] 
      simpa using hk
    · cases hk
end Go.Proofs.Ytmdfgidejdiiiaa
end
section
namespace Go.Proofs.Ytmdfgidejdiiiaa
open Go.RowKit
theorem Ints.other {w : World} {g k : Nat} {C : Option Addr} {l : List Int} {u : Value} (h : Ints w C l) (hn : l ≠ [] → ∀ a, C = some a → a.block ≠ g) : Ints (w.setCell ⟨g, k, none⟩ u) C l :=
  h.kept (grown_set (grown_refl w (some g))) (fun hl a ha e => by injection e with e; exact hn hl a ha e)
end Go.Proofs.Ytmdfgidejdiiiaa
end
section
namespace Go.Proofs.Ytmdfgidejdiiiaa
open Go.RowKit
end Go.Proofs.Ytmdfgidejdiiiaa
end
section
namespace Go.Proofs.Ytmdfgidejdiiiaa
open Go.RowKit
theorem stepS {a w' : World} {H : Nat} {p : Addr} {x0 x1 x2 x3 y : Value} (hH : H < a.heap.size) (hp : p.block < a.heap.size) (S : Hid ((a.cell? ⟨H, 0, none⟩ = some x0 ∧ a.cell? ⟨H, 1, none⟩ = some x1 ∧ a.cell? ⟨H, 2, none⟩ = some x2 ∧ a.cell? ⟨H, 3, none⟩ = some x3) ∧ a.cell? p = some y)) (b : Below a.heap.size a w') :
    (w'.cell? ⟨H, 0, none⟩ = some x0 ∧ w'.cell? ⟨H, 1, none⟩ = some x1 ∧ w'.cell? ⟨H, 2, none⟩ = some x2 ∧ w'.cell? ⟨H, 3, none⟩ = some x3) ∧ w'.cell? p = some y := by
  obtain ⟨⟨y0, y1, y2, y3⟩, y4⟩ := S.out
  exact ⟨⟨(b.cell hH).trans y0, (b.cell hH).trans y1, (b.cell hH).trans y2, (b.cell hH).trans y3⟩, (b.cell hp).trans y4⟩
end Go.Proofs.Ytmdfgidejdiiiaa
end
section
namespace Go.Proofs.Ytmdfgidejdiiiaa
open Go.RowKit
theorem Ints.takeL {w : World} {B : Option Addr} {l : List Int} (h : Ints w B l) (k : Nat) : Ints w B (l.take k) := by
  refine ⟨fun j v hj => h.1 j v ?_, fun x hx => h.2 x (List.mem_of_mem_take hx)⟩
  rw [List.map_take, List.getElem?_take] at hj
  split at hj
  · exact hj
  · cases hj
theorem Ints.dropL {w : World} {B : Option Addr} {l : List Int} {c k : Nat} (h : Ints w B l) (hc : l.length ≤ c) : Ints w (if c = k then B else B.map (fun x => x.add k)) (l.drop k) := by
  refine ⟨fun j v hj => ?_, fun x hx => h.2 x (List.mem_of_mem_drop hx)⟩
  rw [List.map_drop, List.getElem?_drop] at hj
  obtain ⟨ad, e, h1, h2⟩ := h.1 (k + j) v hj
  have hlt : k + j < l.length := by have := (List.getElem?_eq_some_iff.1 hj).1; simpa using this
  rw [if_neg (by omega), e]
  exact ⟨ad.add k, rfl, by rw [block_add]; exact h1, by rw [add_add]; exact h2⟩
end Go.Proofs.Ytmdfgidejdiiiaa
end
section
namespace Go.Proofs.Ytmdfgidejdiiiaa
open Go.RowKit
theorem step_app_ints {ops : Array Oper} {o : Oper} {a : Act} {K : Act → World → Prop} {Q : Exit → Act → World → Prop} {E : Prop} (W : World) (hw : Region.wanted o (yielded ops a.tmps) = true) (s x : Operand)
    (ho : o.op = .call { callee := .builtin .append, args := #[s, x], argTypes := #[33, 33] }) (base : Nat) (l m : List Int)
    (hown : Own base W (a.eval s) l) (hx : ∃ A n c, a.eval x = .slice A n c ∧ Ints W A m ∧ m.length = n) (hn : l.length + m.length ≤ 100000000) (hbase : base ≤ W.heap.size)
    (h : ∀ v' w', Own base w' v' (l ++ m) → W.grownBy w' (a.eval s).ownBlock → Below base W w' → K (a.put o.dst v') w') :
    if Region.wanted o (yielded ops a.tmps) = true then Oper.wp Try.prog o a W K Q else E := by
  rw [if_pos hw]
  obtain ⟨A, n, c, hx, hI, rfl⟩ := hx
  obtain ⟨v', w', hrun, h1, h2, h3⟩ := run_app_ints W base o.type (a.eval s) l m A c hown hI hn hbase
  unfold Oper.wp execOp
  simp only [ho, resolve, invoke, builtin, Sem.run_bind, Sem.run_pure, Result.andThen_ok, List.map_toArray, List.map_cons, List.map_nil, hx, hrun]
  exact h _ _ h1 h2 ((Below.refl base W).grown h2 hbase (fun k hk => (hown.1.lt k hk).1))
theorem lit_two {w : World} {x y : Int} {t : TypeId} (hx : I64 x) (hy : I64 y) : Ints (w.alloc (.cells #[.int .i64 x, .int .i64 y] t)) (some ⟨w.heap.size, 0, none⟩) [x, y] := by
  refine litB rfl (List.all_eq_true.2 fun u hu => ?_)
  have hu2 : I64 u := by
    simp at hu
    rcases hu with rfl | rfl
    · exact hx
    · exact hy
  have u1 := hu2.1
  have u2 := hu2.2
  simp; omega
theorem twoS {a w' : World} {p q : Addr} {x y : Value} (hp : p.block < a.heap.size) (hq : q.block < a.heap.size) (S : Hid (a.cell? p = some x ∧ a.cell? q = some y)) (b : Below a.heap.size a w') : w'.cell? p = some x ∧ w'.cell? q = some y :=
  ⟨(b.cell hp).trans S.out.1, (b.cell hq).trans S.out.2⟩
theorem lit_one {w : World} {x : Int} {t : TypeId} (hx : I64 x) : Ints (w.alloc (.cells #[.int .i64 x] t)) (some ⟨w.heap.size, 0, none⟩) [x] := by
  refine litB rfl (List.all_eq_true.2 fun u hu => ?_)
  simp at hu
  subst hu
  have u1 := hx.1
  have u2 := hx.2
  simp; omega
end Go.Proofs.Ytmdfgidejdiiiaa
end
section
namespace Go.Proofs.Ytmdfgidejdiiiaa
open Go.RowKit
def Box (w : World) (g : Nat) (vs : List Value) : Prop := g < w.heap.size ∧ (∀ k, w.cell? ⟨g, k, none⟩ = vs[k]?) ∧ ∀ k, w.frozen? ⟨g, k, none⟩ = false
theorem Box.new {w : World} {vs : Array Value} {t : TypeId} {g : Nat} (h : g = w.heap.size) : Box (w.alloc (.cells vs t)) g vs.toList := by
  subst h
  refine ⟨by simp, fun k => ?_, fun k => ?_⟩
  · rw [cell_of_row _ w.heap.size k vs t (0, 0) (heap_alloc_new w _)]
    simp
  · exact frozen_of_row _ w.heap.size k vs t (heap_alloc_new w _)
theorem Box.block {w w' : World} {g : Nat} {vs : List Value} (h : Box w g vs) (hb : w'.heap[g]? = w.heap[g]?) (hs : w.heap.size ≤ w'.heap.size) : Box w' g vs :=
  ⟨Nat.lt_of_lt_of_le h.1 hs, fun k => (World.cell?_of_block (a := ⟨g, k, none⟩) hb).trans (h.2.1 k), fun k => (World.frozen?_of_block (a := ⟨g, k, none⟩) hb).trans (h.2.2 k)⟩
theorem Box.keep {w w' : World} {g : Nat} {vs : List Value} (h : Box w g vs) (hb : Below w.heap.size w w') : Box w' g vs := h.block (hb.block g h.1) hb.size
theorem Box.grown {w w' : World} {g : Nat} {vs : List Value} {r : Option Nat} (h : Box w g vs) (hb : w.grownBy w' r) (hn : some g ≠ r) : Box w' g vs := h.block (hb.block g h.1 hn) hb.size
theorem Box.alloc {w : World} {g : Nat} {vs : List Value} (h : Box w g vs) (o : Obj) : Box (w.alloc o) g vs := h.keep ((Below.refl _ _).alloc (Nat.le_refl _) o)
theorem Box.drew {w : World} {g : Nat} {vs : List Value} (h : Box w g vs) : Box w.drew g vs := h.keep ((Below.refl _ _).drew)
theorem Box.set {w : World} {g k : Nat} {vs : List Value} {u : Value} (h : Box w g vs) (hk : k < vs.length := by simp) : Box (w.setCell ⟨g, k, none⟩ u) g (vs.set k u) := by
  obtain ⟨h1, h2, h3⟩ := h
  refine ⟨by simpa [World.setCell] using h1, fun j => ?_, fun j => by rw [World.frozen?_setCell]; exact h3 j⟩
  rw [List.getElem?_set]
  by_cases e : k = j
  · subst e
    rw [if_pos rfl, if_pos hk]
    exact World.cell?_setCell_same _ _ _ ((h2 k).trans (List.getElem?_eq_getElem hk))
  · rw [if_neg e, World.cell?_setCell_other _ _ _ _ (by intro hc; injection hc with _ hc; exact e hc)]
    exact h2 j
theorem Box.c2 {w : World} {g : Nat} {a b : Value} (h : Box w g [a, b]) : w.cell? ⟨g, 0, none⟩ = some a ∧ w.cell? ⟨g, 1, none⟩ = some b := ⟨h.2.1 0, h.2.1 1⟩
theorem Box.c4 {w : World} {g : Nat} {a b c d : Value} (h : Box w g [a, b, c, d]) : w.cell? ⟨g, 0, none⟩ = some a ∧ w.cell? ⟨g, 1, none⟩ = some b ∧ w.cell? ⟨g, 2, none⟩ = some c ∧ w.cell? ⟨g, 3, none⟩ = some d := ⟨h.2.1 0, h.2.1 1, h.2.1 2, h.2.1 3⟩
theorem Box.c12 {w : World} {g : Nat} {a b c d a' b' c' d' i j k l : Value} (h : Box w g [a, b, c, d, a', b', c', d', i, j, k, l]) :
    (w.cell? ⟨g, 0, none⟩ = some a ∧ w.cell? ⟨g, 1, none⟩ = some b ∧ w.cell? ⟨g, 2, none⟩ = some c ∧ w.cell? ⟨g, 3, none⟩ = some d) ∧ (w.cell? ⟨g, 4, none⟩ = some a' ∧ w.cell? ⟨g, 5, none⟩ = some b' ∧ w.cell? ⟨g, 6, none⟩ = some c' ∧ w.cell? ⟨g, 7, none⟩ = some d') ∧
    w.cell? ⟨g, 8, none⟩ = some i ∧ w.cell? ⟨g, 9, none⟩ = some j ∧ w.cell? ⟨g, 10, none⟩ = some k ∧ w.cell? ⟨g, 11, none⟩ = some l :=
  ⟨⟨h.2.1 0, h.2.1 1, h.2.1 2, h.2.1 3⟩, ⟨h.2.1 4, h.2.1 5, h.2.1 6, h.2.1 7⟩, h.2.1 8, h.2.1 9, h.2.1 10, h.2.1 11⟩
end Go.Proofs.Ytmdfgidejdiiiaa
end
section
namespace Go.Proofs.Ytmdfgidejdiiiaa
open Go.RowKit
theorem Box.range {w : World} {g o : Nat} {vs cs : List Value} (h : Box w g vs) (e : ∀ j v, cs[j]? = some v → vs[o + j]? = some v) : w.rangeAt g o cs := fun j v hv => (h.2.1 (o + j)).trans (e j v hv)
theorem Box.there {w : World} {g o n : Nat} {vs : List Value} (h : Box w g vs) (hn : o + n ≤ vs.length) : w.there g o n := fun j hj => ⟨by rw [h.2.1, List.getElem?_eq_getElem (by omega)]; rfl, h.2.2 _⟩
theorem Box.sets {g : Nat} : ∀ (l : List Value) (k : Nat) (w : World) (vs : List Value), Box w g vs → k + l.length ≤ vs.length → Box (w.setCells g k l) g (vs.take k ++ l ++ vs.drop (k + l.length))
  | [], k, w, vs, h, _ => by
    show Box w g _
    rw [List.append_nil, List.length_nil, Nat.add_zero, List.take_append_drop]; exact h
  | v :: l, k, w, vs, h, hk => by
    have hk' : k < vs.length := by simp at hk; omega
    have h1 := h.set (k := k) (u := v) hk'
    have h2 := Box.sets l (k + 1) _ _ h1 (by simp at hk ⊢; omega)
    have e : (vs.set k v).take (k + 1) ++ l ++ (vs.set k v).drop (k + 1 + l.length) = vs.take k ++ (v :: l) ++ vs.drop (k + (v :: l).length) := by
      rw [List.drop_set_of_lt (by omega), List.length_cons, show k + (l.length + 1) = k + 1 + l.length by omega, List.take_add_one, List.getElem?_set_self hk', List.take_set_of_le (Nat.le_refl _)]
      simp
    rw [← e]; exact h2
theorem sets_grown {a : World} {g : Nat} : ∀ (l : List Value) (k : Nat) (w : World), a.grownBy w (some g) → a.grownBy (w.setCells g k l) (some g)
  | [], _, _, h => h
  | v :: l, k, w, h => sets_grown l (k + 1) _ (grown_set h)
theorem wp_ld {ops : Array Oper} {rest : List Oper} {o : Oper} {a : Act} {Q : Exit → Act → World → Prop} {w : World} (hgd : o.guard = none) (ty : TypeId) (x : Operand) (ho : o.op = .load ty x) (g k : Nat) (hx : a.eval x = .pointer (some ⟨g, k, none⟩)) {vs : List Value} (hb : Box w g vs) (cs : List Value)
    (e : ∀ j v, cs[j]? = some v → vs[k + j]? = some v) (d : TypeDesc) (hu : Try.prog.underlying ty = some d) (hd : d.isRow = true) (hi : (Try.prog.info? ty).map (·.size) = some cs.length)
    (h : wpList Try.prog ops Q rest (a.put o.dst (.agg cs.toArray)) w) : wpList Try.prog ops Q (o :: rest) a w :=
  wpList_load_mid hgd ty x ho g k hx cs d (hb.range e) hu hd hi h
theorem wp_st {ops : Array Oper} {rest : List Oper} {o : Oper} {a : Act} {Q : Exit → Act → World → Prop} {w : World} (hgd : o.guard = none) (ty : TypeId) (x y : Operand) (ho : o.op = .store ty x y) (g k : Nat) (cs : List Value) (hx : a.eval x = .pointer (some ⟨g, k, none⟩)) (hy : a.eval y = .agg cs.toArray)
    (hi : (Try.prog.info? ty).map (·.size) = some cs.length) (h1 : cs.all (·.oneCell') = true) {vs vs' : List Value} (hb : Box w g vs) (hk : k + cs.length ≤ vs.length) (e : vs.take k ++ cs ++ vs.drop (k + cs.length) = vs')
    (h : ∀ W1, Box W1 g vs' → w.grownBy W1 (some g) → wpList Try.prog ops Q rest (a.put o.dst undef) W1) : wpList Try.prog ops Q (o :: rest) a w := by
  refine wpList_store_mid hgd ty x y ho g k cs.toArray hx hy (by simpa using hb.there hk) (by simpa using hi) (all_oneCell_toArray (fun v hv => List.all_eq_true.1 h1 v hv)) ?_
  have e2 : cs.toArray.toList = cs := by simp
  rw [e2]
  refine h _ ?_ (sets_grown _ _ _ (grown_refl w (some g)))
  rw [← e]
  exact Box.sets _ _ _ _ hb hk
theorem box_one {w : World} {g k : Nat} {vs vs' : List Value} {v : Value} (hb : Box w g vs) (hk : k < vs.length) (e : vs.set k v = vs') : Box (w.setCell ⟨g, k, none⟩ v) g vs' ∧ w.grownBy (w.setCell ⟨g, k, none⟩ v) (some g) := by
  subst e
  exact ⟨hb.set hk, grown_set (grown_refl w (some g))⟩
theorem put_facts {w w1 W : World} {g : Nat} (h : Below w.heap.size w w1) (hg : w.heap.size ≤ g) (h1 : w1.grownBy W (some g)) : Below w.heap.size w W := h.grown h1 h.size (fun k e => by injection e with e; omega)
theorem Box.c3 {w : World} {g : Nat} {a b c : Value} (h : Box w g [a, b, c]) : w.cell? ⟨g, 0, none⟩ = some a ∧ w.cell? ⟨g, 1, none⟩ = some b ∧ w.cell? ⟨g, 2, none⟩ = some c := ⟨h.2.1 0, h.2.1 1, h.2.1 2⟩
end Go.Proofs.Ytmdfgidejdiiiaa
end
section
namespace Go.Proofs.Ytmdfgidejdiiiaa
open Go.RowKit
theorem resC {fn : Func} {t : Tmp} {T : TypeId} (h : fn.results = #[.cell t T]) (tmps : Array Value) (P : Program) (w : World) {g : Nat} {v : Value} (hp : tmps.getD t undef = .pointer (some ⟨g, 0, none⟩)) (hv : (loadVar T ⟨g, 0, none⟩).run P w = .ok v w) : (results fn tmps).run P w = .ok v w := by
  have hp' : tmps[t]?.getD undef = .pointer (some ⟨g, 0, none⟩) := by rw [← Array.getD_eq_getD_getElem?]; exact hp
  simp [results, h, hp', hv, asAddr]
theorem res_box {w : World} {g : Nat} {cs : List Value} (ty : TypeId) (hb : Box w g cs) (d : TypeDesc) (hu : Try.prog.underlying ty = some d) (hd : d.isRow = true) (hi : (Try.prog.info? ty).map (·.size) = some cs.length) : (loadVar ty ⟨g, 0, none⟩).run Try.prog w = .ok (.agg cs.toArray) w :=
  run_loadVar_mid w g 0 _ cs d (hb.range (fun j v h => by rw [Nat.zero_add]; exact h)) hu hd hi
end Go.Proofs.Ytmdfgidejdiiiaa
end
section
namespace Go.Proofs.Ytmdfgidejdiiiaa
open Go.RowKit
theorem size_Int : (Try.prog.info? 26).map (·.size) = some 2 := by kernel_rfl
theorem row_Int : ∃ d, Try.prog.underlying 26 = some d ∧ d.isRow = true := ⟨_, Try.underlying26, rfl⟩
def sgn (b : Bool) (x : Int) : Int := if b then -x else x
def RetV (w : World) (v : Value) (e : Ending) (w' : World) : Prop := e = .returned v ∧ Below w.heap.size w w'
theorem it_signed (neg : Bool) (A : Option Addr) (n c : Nat) (w : World) : Calls Try.prog 114 #[.bool neg, .slice A n c] w (RetV w (.agg #[.bool (neg && decide (0 < n)), .slice A n c])) := by
  obtain ⟨dsc, hd1, hd2⟩ := row_Int
  have hb : Below w.heap.size w (w.alloc (.cells #[.bool (neg && decide (0 < n)), .slice A n c] 26)) := (Below.refl _ _).alloc (Nat.le_refl _) _
  have hx := res_box 26 (Box.new (w := w) (vs := #[.bool (neg && decide (0 < n)), .slice A n c]) (t := 26) rfl) dsc hd1 hd2 size_Int
  have HX := Lib.hid (And.intro hb hx)
  clear hb hx hd1 hd2
  cases neg with
  | false =>
    rw [Bool.false_and] at HX ⊢
    go_enter Try.func114, Try.ntmps114
    go_wp2_with fail
    refine bodyPost_ret (resC rfl _ _ _ (g := w.heap.size) rfl HX.out.2) rfl ?_
    exact ⟨rfl, HX.out.1⟩
  | true =>
    rw [Bool.true_and] at HX ⊢
    by_cases h : 0 < n
    · rw [decide_eq_true h] at HX ⊢
      have h1 : (0 : Int) < (n : Int) := by omega
      go_enter Try.func114, Try.ntmps114
      go_wp2_with fail
      refine bodyPost_ret (resC rfl _ _ _ (g := w.heap.size) rfl HX.out.2) rfl ?_
      exact ⟨rfl, HX.out.1⟩
    · rw [decide_eq_false h] at HX ⊢
      obtain rfl : n = 0 := by omega
      go_enter Try.func114, Try.ntmps114
      go_wp2_with fail
      refine bodyPost_ret (resC rfl _ _ _ (g := w.heap.size) rfl HX.out.2) rfl ?_
      exact ⟨rfl, HX.out.1⟩
inductive Dsn where
  | v (u : Value)
  | num (x : Int) (K : Nat)
  | int (z : Int) (K : Nat)
def NumO (b : Nat) (w : World) (v : Value) (x : Int) (K : Nat) : Prop := ∃ A c l, v = .slice A l.length c ∧ OwG b w (.slice A l.length c) l ∧ nv l = x ∧ Nrm l ∧ l.length ≤ K
def IntO (b : Nat) (w : World) (v : Value) (z : Int) (K : Nat) : Prop := ∃ neg A c l, v = .agg #[.bool neg, .slice A l.length c] ∧ OwG b w (.slice A l.length c) l ∧ Nrm l ∧ l.length ≤ K ∧ sgn neg (nv l) = z
theorem NumO.grow {b : Nat} {w w' : World} {v : Value} {x : Int} {K : Nat} (h : NumO b w v x K) (hb : Below w.heap.size w w') : NumO b w' v x K := by
  obtain ⟨A, c, l, e, o, r⟩ := h; exact ⟨A, c, l, e, o.grow hb, r⟩
theorem IntO.grow {b : Nat} {w w' : World} {v : Value} {x : Int} {K : Nat} (h : IntO b w v x K) (hb : Below w.heap.size w w') : IntO b w' v x K := by
  obtain ⟨n, A, c, l, e, o, r⟩ := h; exact ⟨n, A, c, l, e, o.grow hb, r⟩
theorem RetN.num {w w' : World} {x : Int} {K b : Nat} {e : Ending} (h : RetN w x K e w') (hb : b ≤ w.heap.size) : ∃ v, e = .returned v ∧ NumO b w' v x K ∧ Below w.heap.size w w' := by
  obtain ⟨v, l, h1, h2, h3, h4, h5, h6⟩ := h
  obtain ⟨A, c, rfl, _, _⟩ := h2.form
  exact ⟨_, h1, ⟨A, c, l, rfl, h2.base hb, h3, h4, h5⟩, h6⟩
def dN (b : Nat) (ds : List Dsn) (i : Nat) (v : Value) (w : World) : Prop :=
  match ds[i]? with
  | some (.v u) => v = u
  | some (.num x K) => NumO b w v x K
  | some (.int z K) => IntO b w v z K
  | none => True
theorem dN_keep {b : Nat} {ds : List Dsn} {w w' : World} (h : Below w.heap.size w w') (i : Nat) (v : Value) (hf : dN b ds i v w) : dN b ds i v w' := by
  unfold dN at hf ⊢
  split at hf
  · exact hf
  · exact hf.grow h
  · exact hf.grow h
  · trivial
theorem sgn_len {neg : Bool} {l : List Int} (n : Nrm l) (hd : Dig l) : sgn (neg && decide (0 < l.length)) (nv l) = sgn neg (nv l) := by
  cases neg with
  | false => rfl
  | true =>
    by_cases h : 0 < l.length
    · rw [decide_eq_true h]; rfl
    · have : l = [] := List.length_eq_zero_iff.1 (by omega)
      subst this; rfl
def RetI (w : World) (z : Int) (K : Nat) (e : Ending) (w' : World) : Prop := ∃ v, e = .returned v ∧ IntO w.heap.size w' v z K ∧ Below w.heap.size w w'
set_option maxRecDepth 100000 in
set_option maxHeartbeats 4000000 in
theorem it_Trim (neg : Bool) (A : Option Addr) (n c : Nat) (l : List Int) (w : World) (h : DigA w A l) (hn : l.length = n) (hc : n ≤ c) (h9 : n ≤ 1000000) : Calls Try.prog 117 #[.agg #[.bool neg, .slice A n c]] w (RetI w (sgn neg (nv l)) n) := by
  have CT : Hid (∀ w1, Below w.heap.size w w1 → Calls Try.prog 120 #[.slice A n c] w1 (RetN w1 (nv l) n)) := Lib.hid fun w1 hb => nt_Trim A n c l w1 (h.grow hb) hn hc (by omega)
  obtain ⟨x, hx⟩ : ∃ x, nv l = x := ⟨_, rfl⟩
  rw [hx] at CT ⊢
  clear hx h hn
  go_enter Try.func117, Try.ntmps117
  go_upto_region 1 with fail
  have hB : Below w.heap.size w ((w.alloc (.cells #[.bool neg, .slice A n c] 26)).alloc (.cells #[.bool false, .slice none 0 0] 26)) := ((Below.refl _ _).alloc (Nat.le_refl _) _).alloc (by simp) _
  have b1 : Box ((w.alloc (.cells #[.bool neg, .slice A n c] 26)).alloc (.cells #[.bool false, .slice none 0 0] 26)) w.heap.size [.bool neg, .slice A n c] := (Box.new rfl).alloc _
  have b2 : Box ((w.alloc (.cells #[.bool neg, .slice A n c] 26)).alloc (.cells #[.bool false, .slice none 0 0] 26)) (w.heap.size + 1) [.bool false, .slice none 0 0] := Box.new (by simp)
  generalize (w.alloc (.cells #[.bool neg, .slice A n c] 26)).alloc (.cells #[.bool false, .slice none 0 0] 26) = wA at hB b1 b2 ⊢
  have HA := Lib.hid (And.intro hB (And.intro b1 b2))
  clear hB b1 b2
  refine wp_region_grow2 (fun i => Nat.blt i 6) (fun _ => false) (fun w9 => Below wA.heap.size wA w9) (fun a b => Below a.heap.size a b) (dN wA.heap.size [.v (.pointer (some ⟨w.heap.size, 0, none⟩)), .v (.bool neg), .v (.pointer (some ⟨w.heap.size, 1, none⟩)), .v (.slice A n c), .num x n, .int (sgn neg x) n]) (by kernel_rfl) (by kernel_rfl) (Below.refl _ _).drew (fun a b h1 h2 => ⟨below_then h1 h2, fun i _ v => dN_keep h2 i v⟩) (fun _ _ => Below.refl _ _) ?_ (fun _ _ _ _ h => by cases h) ?_
  · refine ⟨?_, ?_, ?_, ?_, ?_, ?_, trivial⟩
    all_goals
      intro vs w9 hp hF
      have HP := Lib.hid hp
      have z1 : w9.cell? ⟨w.heap.size, 0, none⟩ = some (.bool neg) := ((HA.out.2.1.keep hp).2.1 0)
      have z2 : w9.cell? ⟨w.heap.size, 1, none⟩ = some (.slice A n c) := ((HA.out.2.1.keep hp).2.1 1)
      clear hp
      simp [depsB, Region.binds, dN] at hF
      simp [stL, depsB, Region.binds, Act.put, hF]
    · (go_wp2_with fail; exact ⟨rfl, Below.refl _ _⟩)
    · (go_wp2_with fail; exact ⟨rfl, Below.refl _ _⟩)
    · (go_wp2_with fail; exact ⟨rfl, Below.refl _ _⟩)
    · (go_wp2_with fail; exact ⟨rfl, Below.refl _ _⟩)
    · go_wp2_with (go_at_call 120; (with_reducible refine (CT.out _ (below_then HA.out.1 HP.out)).mono ?_); intro e1 w1' h1; obtain ⟨v1, rfl, o1, hb1⟩ := h1.num (b := wA.heap.size) HP.out.size)
      exact o1
    · obtain ⟨h1, A', c', l', e4, o4, n4, m4, k4⟩ := hF
      simp only [e4]
      go_wp2_with (go_at_call 114; (with_reducible refine (it_signed _ _ _ _ _).mono ?_); rintro e1 w1' ⟨rfl, hb1⟩)
      exact ⟨_, A', c', l', rfl, o4.grow hb1, m4, k4, by rw [sgn_len m4 o4.dig, n4]⟩
  intro vs w9 hp hF
  obtain ⟨neg', A', c', l', e5, o5⟩ : IntO wA.heap.size w9 (vs 5) (sgn neg x) n := hF 5 (by decide) rfl
  have b9 := HA.out.2.2.keep hp
  have hb9 := below_then HA.out.1 hp
  clear hF
  show wpList Try.prog _ _ [_] _ _
  simp [stL, Act.put, e5]
  refine wp_st rfl 26 _ _ rfl (w.heap.size + 1) 0 [.bool neg', .slice A' l'.length c'] rfl rfl size_Int rfl b9 (Nat.le_refl _) rfl ?_
  intro W9 c9 g9
  have hW := put_facts (g := w.heap.size + 1) hb9 (by omega) g9
  have HO := Lib.hid ((o5.1.away g9 HA.out.2.2.1).base (base' := w.heap.size) HA.out.1.size)
  have HC := Lib.hid (And.intro c9 (And.intro hW o5.2))
  clear c9 g9 hW o5 e5 b9 hb9 hp
  go_wp2_with fail
  obtain ⟨dsc, hd1, hd2⟩ := row_Int
  refine bodyPost_ret (resC rfl _ _ W9 (g := w.heap.size + 1) rfl (res_box 26 HC.out.1 dsc hd1 hd2 size_Int)) rfl ?_
  exact ⟨_, rfl, ⟨neg', A', c', l', rfl, HO.out, HC.out.2.2⟩, HC.out.2.1⟩
end Go.Proofs.Ytmdfgidejdiiiaa
end
