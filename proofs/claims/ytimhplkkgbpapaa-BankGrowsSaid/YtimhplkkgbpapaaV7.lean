/- The walk of Synthesise of package bank. -/
import Derived.Test.YtimhplkkgbpapaaV6
namespace Go.Proofs.Ytimhplkkgbpapaa
open Go.RowKit

def syE (ls : List Lft) (a b : List Int) : Int := needV (needV (needV (needV 0 (lftsB ls) 2) ((a.length : Int) == (b.length : Int)) 1) (decide (a.length + b.length ≤ 4096)) 4) (a.all wB && b.all wB) 17
def syX (ls : List Lft) (a b : List Int) : List Int := if syE ls a b = 0 then synthF ls a b else []
theorem syE_zero {ls : List Lft} {a b : List Int} (h : syE ls a b = 0) : lftsB ls = true ∧ a.length = b.length ∧ a.length + b.length ≤ 4096 ∧ W32 a ∧ W32 b := by
  unfold syE at h
  obtain ⟨h, h4⟩ := need_zero (by decide) h
  obtain ⟨h, h3⟩ := need_zero (by decide) h
  obtain ⟨h, h2⟩ := need_zero (by decide) h
  obtain ⟨_, h1⟩ := need_zero (by decide) h
  rw [Bool.and_eq_true] at h4
  refine ⟨h1, ?_, of_decide_eq_true h3, wB_iff.1 h4.1, wB_iff.1 h4.2⟩
  rw [beq_iff_eq] at h2
  omega
theorem IntsFar.two {w : World} {q : Nat} {A B : Option Addr} {a b : List Int} {c d : Nat} {t : TypeId} (h : Ints w A a) (k : Ints w B b) (hq : q < w.heap.size) (ha : a ≠ [] → ∀ p, A = some p → p.block ≠ q) (hb : b ≠ [] → ∀ p, B = some p → p.block ≠ q) :
    IntsFar (w.alloc (.cells #[.slice A a.length c, .slice B b.length d] t)) q (some ⟨w.heap.size, 0, none⟩) [a, b] := fun n l' hk => by
  match n, hk with
  | 0, hk =>
    simp at hk
    subst hk
    exact ⟨_, A, c, rfl, by show w.heap.size ≠ q; omega, by simp [Addr.add, go_sem], h.grow ((Below.refl _ _).alloc (Nat.le_refl _) _), ha⟩
  | 1, hk =>
    simp at hk
    subst hk
    exact ⟨_, B, d, rfl, by show w.heap.size ≠ q; omega, by simp [Addr.add, go_sem], k.grow ((Below.refl _ _).alloc (Nat.le_refl _) _), hb⟩
set_option maxRecDepth 100000 in
set_option maxHeartbeats 2000000 in
theorem bk_Synthesise (A B C : Option Addr) (ls : List Lft) (x y : List Int) (c d e : Nat) (w : World) (hL : Lifts w A ls) (hx : Ints w B x) (hy : Ints w C y) (hl : ls.length ≤ 1000000) (hl2 : ∀ s ∈ ls, s.2.2.1.length ≤ 9223372036854775807) (hxl : x.length ≤ 1000000) (hyl : y.length ≤ 1000000) :
    Calls Try.prog 12 #[.slice A ls.length c, .slice B x.length d, .slice C y.length e] w (RetInts w (syX ls x y) (syE ls x y)) := by
  have hfar : x ≠ [] → ∀ a, B = some a → a.block ≠ w.heap.size + 1 := fun hc a e => by have := hx.block hc e; omega
  have hfar2 : y ≠ [] → ∀ a, C = some a → a.block ≠ w.heap.size + 1 := fun hc a e => by have := hy.block hc e; omega
  have HFAR := Lib.hid hfar
  have HFAR2 := Lib.hid hfar2
  clear hfar hfar2
  have HL2 := Lib.hid hl2
  have h0 : Below w.heap.size w ((w.alloc (.cells #[.int .i64 0] 30)).alloc (.cells #[.int .i64 0] 51)) := ((Below.refl _ _).alloc (Nat.le_refl _) _).alloc (by simp) _
  have k0 : CheckAt ((w.alloc (.cells #[.int .i64 0] 30)).alloc (.cells #[.int .i64 0] 51)) w.heap.size 0 := ⟨by simp [go_sem], by simp [go_sem]⟩
  have k1 : CheckAt ((w.alloc (.cells #[.int .i64 0] 30)).alloc (.cells #[.int .i64 0] 51)) (w.heap.size + 1) 0 := ⟨by simp [go_sem], by simp [go_sem]⟩
  have H0 := Lib.hid h0
  have K0 := Lib.hid k0
  have K1 := Lib.hid k1
  clear h0 k0 k1 hl2
  go_enter_defers Try.func12, Try.ntmps12
  go_wp2_with fail
  refine (bk_Valid A ls c _ (hL.grow H0.out) hl HL2.out).mono ?_
  rintro e' w1 ⟨rfl, hb1⟩
  have hb := H0.out.trans (hb1.mono H0.out.size)
  have hk0 := K0.out.keep hb1
  have hk1 := K1.out.keep hb1
  clear hb1 K0 K1 H0
  go_wp2_with fail
  refine (bk_need (w.heap.size + 1) 0 2 _ _ hk1 (by decide)).mono ?_
  rintro e' w2 ⟨rfl, hk1, hg⟩
  have hb := grown_to hb hg (by omega)
  have hk0 := hk0.kept hg (by omega)
  clear hg
  go_wp2_with fail
  refine (bk_need (w.heap.size + 1) _ 1 _ _ hk1 (by decide)).mono ?_
  rintro e' w3 ⟨rfl, hk1, hg⟩
  have hb := grown_to hb hg (by omega)
  have hk0 := hk0.kept hg (by omega)
  clear hg
  go_wp2_with fail
  refine (bk_need (w.heap.size + 1) _ 4 _ _ hk1 (by decide)).mono ?_
  rintro e' w4 ⟨rfl, hk1, hg⟩
  have hb := grown_to hb hg (by omega)
  have hk0 := hk0.kept hg (by omega)
  clear hg
  go_wp2_with fail
  have ha : Below w.heap.size w (w4.alloc (.cells #[.slice B x.length d, .slice C y.length e] 23)) := hb.alloc hb.size _
  have hba : Below w4.heap.size w4 (w4.alloc (.cells #[.slice B x.length d, .slice C y.length e] 23)) := (Below.refl _ _).alloc (Nat.le_refl _) _
  have hfar4 := IntsFar.two (c := d) (d := e) (t := 23) (hx.grow hb) (hy.grow hb) (q := w.heap.size + 1) (cell_lt hk1.1) HFAR.out HFAR2.out
  have hk1 := hk1.keep hba
  have hk0 := hk0.keep hba
  clear hb hba
  refine (bk_words (w.heap.size + 1) _ _ [x, y] 2 2 _ hk1 hfar4 rfl (by omega) (by simp; omega)).mono ?_
  rintro e' w5 ⟨rfl, hk1, hg⟩
  have hb := grown_to ha hg (by omega)
  have hk0 := hk0.kept hg (by omega)
  clear hg ha hfar4
  obtain ⟨K, hK⟩ : ∃ K, needV (needV (needV (needV 0 (lftsB ls) 2) ((x.length : Int) == (y.length : Int)) 1) (decide ((x.length : Int) + (y.length : Int) ≤ 4096)) 4) ([x, y].all fun l => l.all wB) 17 = K := ⟨_, rfl⟩
  rw [hK] at hk1 ⊢
  have hKE : syE ls x y = K := by
    rw [← hK]
    unfold syE
    rw [List.all_cons, List.all_cons, List.all_nil, Bool.and_true]
    congr 2
    rw [decide_eq_decide]; omega
  have HKE := Lib.hid hKE
  clear hKE hK
  by_cases hz : K = 0
  · subst hz
    obtain ⟨z1, z2, z3, z4, z5⟩ := syE_zero HKE.out
    have Z := Lib.hid (lfts_ok z1)
    have Z2 := Lib.hid z2
    have Z3 := Lib.hid z3
    have Z4 := Lib.hid z4
    have Z5 := Lib.hid z5
    have HL := Lib.hid (hL.grow hb)
    have HX := Lib.hid (hx.grow hb)
    have HY := Lib.hid (hy.grow hb)
    clear z1 z2 z3 z4 z5 hL hx hy
    rw [decide_eq_true (show (0 : Int) = 0 from rfl)]
    go_wp2_with fail
    refine (bk_synthesise A B C ls x y c d e x.length _ HL.out HX.out HY.out Z.out.2 Z.out.1 rfl Z2.out.symm (by have := Z3.out; have := Z2.out; omega) Z4.out Z5.out).mono ?_
    rintro e' w6 ⟨v1, rfl, o1, hb6⟩
    have O1 := Lib.hid o1
    have HB := Lib.hid hb
    have H6 := Lib.hid (hb.trans (hb6.mono hb.size))
    have H5 := Lib.hid (cell_lt hk1.1)
    have e0 := hk0.keep hb6
    have e1 := hk1.keep hb6
    clear hk0 hk1 hb6 o1 hb
    have c0 := e0.1
    have f0 := e0.2
    have E1 := Lib.hid e1
    have E0 := Lib.hid e0
    clear e0 e1
    go_wp2
    go_region
    first | go_end0 | go_wp2
    refine leaves_cons (f := 22) (args := #[.pointer (some ⟨w.heap.size + 1, 0, none⟩), .pointer (some ⟨w.heap.size, 0, none⟩)]) (by simp) (by simp [go_sem]) ?_
    refine (bk_report (w.heap.size + 1) w.heap.size 0 0 .returning _ ?_ ?_ ?_).mono ?_
    · show (w6.setCell _ _).cell? _ = _
      rw [World.cell?_setCell_other (h := by intro e; have := congrArg Addr.block e; simp at this)]; exact E1.out.1
    · exact (E0.out.set 0).1
    · exact (E0.out.set 0).2
    rintro e' u' w'' ⟨rfl, rfl, rfl⟩
    refine ⟨.tuple #[v1, .int .i64 0], ?_, ?_⟩
    · have hcc := ((E0.out.set 0).set 0).1
      simp [go_sem, results, settle, Try.results12, hcc]
    · unfold syX
      rw [HKE.out, if_pos rfl]
      have hs := HB.out.size
      have h5 := H5.out
      refine ⟨v1, rfl, ((O1.out.store (by omega)).store (by omega)).base hs, ?_⟩
      exact ((H6.out.setCell (Nat.le_refl _) _).drew).setCell (Nat.le_refl _) _
  · have c0 := hk0.1
    have f0 := hk0.2
    have E1 := Lib.hid hk1
    have E0 := Lib.hid hk0
    have HB := Lib.hid hb
    have HZ := Lib.hid hz
    clear hk0 hk1 hb hL hx hy
    rw [decide_eq_false hz]
    clear hz
    go_wp2
    go_region
    first | go_end0 | go_wp2
    refine leaves_cons (f := 22) (args := #[.pointer (some ⟨w.heap.size + 1, 0, none⟩), .pointer (some ⟨w.heap.size, 0, none⟩)]) (by simp) (by simp [go_sem]) ?_
    refine (bk_report (w.heap.size + 1) w.heap.size K 0 .returning _ ?_ ?_ ?_).mono ?_
    · show (w5.setCell _ _).cell? _ = _
      rw [World.cell?_setCell_other (h := by intro e; have := congrArg Addr.block e; simp at this)]; exact E1.out.1
    · exact (E0.out.set 0).1
    · exact (E0.out.set 0).2
    rintro e' u' w'' ⟨rfl, rfl, rfl⟩
    refine ⟨.tuple #[.slice none 0 0, .int .i64 K], ?_, ?_⟩
    · have hcc := ((E0.out.set 0).set K).1
      simp [go_sem, results, settle, Try.results12, hcc]
    · unfold syX
      rw [HKE.out, if_neg HZ.out]
      refine ⟨_, rfl, Own.nil, ?_⟩
      exact ((HB.out.setCell (Nat.le_refl _) _).drew).setCell (Nat.le_refl _) _
end Go.Proofs.Ytimhplkkgbpapaa
