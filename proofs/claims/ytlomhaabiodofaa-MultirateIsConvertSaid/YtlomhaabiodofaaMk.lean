/- The walks of law32's own functions: known, gcd, exchanged. -/
import Derived.Test.YtlomhaabiodofaaMr
import Derived.Test.YtlomhaabiodofaaLa
import Derived.ProofKit
namespace Go.Proofs.Ytlomhaabiodofaa
open Go.RowKit

theorem add_cells {b k : Nat} : (⟨b, 0, none⟩ : Addr).add k = ⟨b, k, none⟩ := by
  unfold Addr.add
  by_cases h0 : k = 0 <;> simp [h0]
theorem Row.lit {w : World} {cs : Array Value} {t : TypeId} : Row (w.alloc (.cells cs t)) (w.alloc (.cells cs t)).heap.size (some ⟨w.heap.size, 0, none⟩) cs.toList := fun k v hk => by
  refine ⟨_, rfl, by simp, ?_⟩
  rw [add_cells]
  simpa [go_sem] using hk
theorem Ints.lit {w : World} {cs : Array Value} {t : TypeId} {l : List Int} (hc : cs.toList = l.map (Value.int .i64)) (hl : l.all (fun x => decide (-9223372036854775808 ≤ x) && decide (x ≤ 9223372036854775807)) = true) : Ints (w.alloc (.cells cs t)) (some ⟨w.heap.size, 0, none⟩) l := by
  refine ⟨?_, fun x hx => by have := List.all_eq_true.1 hl x hx; simp at this; exact this⟩
  rw [← hc]
  exact Row.lit
theorem Ints.litn {w : World} {n : Nat} {cs : Array Value} {t : TypeId} {l : List Int} (hn : n = w.heap.size) (hc : cs.toList = l.map (Value.int .i64)) (hl : l.all (fun x => decide (-9223372036854775808 ≤ x) && decide (x ≤ 9223372036854775807)) = true) : Ints (w.alloc (.cells cs t)) (some ⟨n, 0, none⟩) l := by
  subst hn; exact Ints.lit hc hl
theorem below_alloc {W w : World} {o : Obj} (h : Below W.heap.size W w) : Below W.heap.size W (w.alloc o) := h.alloc h.size _
theorem IntsL.lit2 {w : World} {t : TypeId} {B1 B2 : Option Addr} {l1 l2 : List Int} {n1 n2 c1 c2 : Nat} (e1 : n1 = l1.length) (e2 : n2 = l2.length) (h1 : Ints w B1 l1) (h2 : Ints w B2 l2) :
    IntsL (w.alloc (.cells #[.slice B1 n1 c1, .slice B2 n2 c2] t)) (some ⟨w.heap.size, 0, none⟩) [l1, l2] := by
  subst e1 e2
  have hb : Below w.heap.size w (w.alloc (.cells #[.slice B1 l1.length c1, .slice B2 l2.length c2] t)) := (Below.refl _ _).alloc (Nat.le_refl _) _
  intro k l hk
  match k, hk with
  | 0, hk => simp at hk; subst hk; exact ⟨_, B1, c1, rfl, by simp, by simp [go_sem, Addr.add], h1.grow hb⟩
  | 1, hk => simp at hk; subst hk; exact ⟨_, B2, c2, rfl, by simp, by simp [go_sem, Addr.add], h2.grow hb⟩
theorem IntsL.lit2n {w : World} {n : Nat} {t : TypeId} {B1 B2 : Option Addr} {l1 l2 : List Int} {n1 n2 c1 c2 : Nat} (hn : n = w.heap.size) (e1 : n1 = l1.length) (e2 : n2 = l2.length) (h1 : Ints w B1 l1) (h2 : Ints w B2 l2) :
    IntsL (w.alloc (.cells #[.slice B1 n1 c1, .slice B2 n2 c2] t)) (some ⟨n, 0, none⟩) [l1, l2] := by
  subst hn; exact IntsL.lit2 e1 e2 h1 h2

/-- A call hands back a slice that reads as l, and the number E. -/
def GetInts (w : World) (l : List Int) (E : Int) (e : Ending) (w' : World) : Prop := ∃ A c, e = .returned (.tuple #[.slice A l.length c, .int .i64 E]) ∧ Ints w' A l ∧ Below w.heap.size w w'
theorem RetInts.get {w w' : World} {l : List Int} {E : Int} {e : Ending} (h : RetInts w l E e w') : GetInts w l E e w' := by
  obtain ⟨v, rfl, ho, hb⟩ := h
  obtain ⟨A, c, rfl, _, hi⟩ := ho.form
  exact ⟨A, c, rfl, hi, hb⟩
theorem rf_Same (A B : Option Addr) (l m : List Int) (c d : Nat) (w : World) (hm : m.length ≤ 9223372036854775807) (he : l = m) (h : Ints w A l) (g : Ints w B m) :
    Calls Try.prog 14 #[.slice A l.length c, .slice B m.length d] w fun e w' => e = .returned (.bool true) ∧ Below w.heap.size w w' :=
  (rf_SameInts A B l m c d w hm h g).mono fun e w' hh => ⟨by rw [hh.1, he]; simp, hh.2⟩
theorem mr_Up_ok (A : Option Addr) (x : List Int) (c l : Nat) (L : Int) (w : World) (hL : L = (l : Int)) (hE : upE x.length l = 0) (hx : x.length ≤ 9223372036854775807) (h : Ints w A x) :
    Calls Try.prog 10 #[.slice A x.length c, .int .i64 L] w (GetInts w (upF x l) 0) := by
  subst hL
  refine (mr_Up A x c l w hx h).mono fun e w' hh => ?_
  rw [hE, upV_of hE] at hh
  exact hh.get
theorem mr_Down_ok (A : Option Addr) (x : List Int) (c l : Nat) (L : Int) (w : World) (hL : L = (l : Int)) (hE : downE x.length l = 0) (hx : x.length ≤ 9223372036854775807) (h : Ints w A x) :
    Calls Try.prog 12 #[.slice A x.length c, .int .i64 L] w (GetInts w (everyF x 0 l) 0) := by
  subst hL
  refine (mr_Down A x c l w hx h).mono fun e w' hh => ?_
  rw [hE, downV_of hE] at hh
  exact hh.get
set_option maxRecDepth 100000 in
set_option maxHeartbeats 400000 in
theorem known32 (w : World) : Calls Try.prog 13 #[] w fun e w' => e = .returned (.bool true) ∧ Below w.heap.size w w' := by
  have hb := Below.refl w.heap.size w
  go_enter Try.func13, Try.ntmps13
  go_wp2_with fail
  have hL : Ints (w.alloc (.cells #[.int .i64 1, .int .i64 2] 3)) (some ⟨w.heap.size, 0, none⟩) [1, 2] := Ints.lit rfl (by decide)
  refine (mr_Up_ok _ [1, 2] 2 3 3 _ rfl (by decide) (by decide) hL).mono ?_
  rintro e w1 ⟨A1, c1, rfl, hi1, hb1⟩
  have hb := below_then (below_alloc hb) hb1
  have e1 : upF [1, 2] 3 = [1, 0, 0, 2, 0, 0] := by decide
  rw [e1] at hi1 ⊢
  clear hb1 hL e1
  go_wp2_with fail
  have hL : Ints (w1.alloc (.cells #[.int .i64 1, .int .i64 2, .int .i64 3, .int .i64 4, .int .i64 5] 3)) (some ⟨w1.heap.size, 0, none⟩) [1, 2, 3, 4, 5] := Ints.lit rfl (by decide)
  refine (mr_Phases _ [1, 2, 3, 4, 5] 5 2 _ (by decide) hL).mono ?_
  rintro e w2 ⟨A2, c2, rfl, hi2, hb2⟩
  have hb := below_then (below_alloc hb) hb2
  have hi1 := hi1.grow (below_then (below_alloc (Below.refl _ _)) hb2)
  have e2 : phV [1, 2, 3, 4, 5] 2 = [[1, 3, 5], [2, 4]] := by decide
  have e3 : downE ([1, 2, 3, 4, 5] : List Int).length 2 = 0 := by decide
  rw [e2] at hi2 ⊢
  rw [e3]
  clear hb2 hL e2 e3
  go_wp2_with fail
  have hL1 : Ints (w2.alloc (.cells #[.int .i64 1] 3)) (some ⟨w2.heap.size, 0, none⟩) [1] := Ints.lit rfl (by decide)
  have hL1 := hL1.grow (below_alloc (o := .cells #[.int .i64 2, .int .i64 3] 3) (Below.refl _ _))
  have hL2 : Ints ((w2.alloc (.cells #[.int .i64 1] 3)).alloc (.cells #[.int .i64 2, .int .i64 3] 3)) (some ⟨w2.heap.size + 1, 0, none⟩) [2, 3] := Ints.litn (by simp) rfl (by decide)
  have hLL : IntsL (((w2.alloc (.cells #[.int .i64 1] 3)).alloc (.cells #[.int .i64 2, .int .i64 3] 3)).alloc (.cells #[.slice (some ⟨w2.heap.size, 0, none⟩) 1 1, .slice (some ⟨w2.heap.size + 1, 0, none⟩) 2 2] 22)) (some ⟨w2.heap.size + 1 + 1, 0, none⟩) [[1], [2, 3]] := IntsL.lit2n (by simp) rfl rfl hL1 hL2
  refine (mr_Merge _ [[1], [2, 3]] 2 _ (by decide) (by decide) hLL).mono ?_
  rintro e w3 ⟨v3, rfl, ho3, hb3⟩
  have hg := below_then (below_alloc (below_alloc (below_alloc (Below.refl w2.heap.size w2)))) hb3
  have hb := below_then hb hg
  have hi1 := hi1.grow hg
  have hi2 := hi2.grow hg
  have e4 : mergeE [[1], [2, 3]] = 1 := by decide
  rw [e4]
  obtain ⟨A3, c3, rfl, _, _⟩ := ho3.form
  obtain ⟨ad, l, B, c, rfl, hba, hl, hcell, hi4⟩ := hi2.at_ (k := 1) (by decide)
  simp at hl
  subst hl
  clear hb3 hg ho3 hi2 hLL hL2 hL1 e4
  generalize (mergeV [[1], [2, 3]]).length = n3
  go_wp2_with fail
  have hL : Ints (w3.alloc (.cells #[.int .i64 1, .int .i64 0, .int .i64 0, .int .i64 2, .int .i64 0, .int .i64 0] 3)) (some ⟨w3.heap.size, 0, none⟩) [1, 0, 0, 2, 0, 0] := Ints.lit rfl (by decide)
  refine (rf_Same _ _ [1, 0, 0, 2, 0, 0] [1, 0, 0, 2, 0, 0] _ 6 _ (by decide) rfl (hi1.grow (below_alloc (Below.refl _ _))) hL).mono ?_
  rintro e w5 ⟨rfl, hb5⟩
  have hg := below_then (below_alloc (Below.refl w3.heap.size w3)) hb5
  have hb := below_then hb hg
  have hi4 := hi4.grow hg
  have hcell := (hg.cell (by rw [block_add]; exact hba)).trans hcell
  have hba := Nat.lt_of_lt_of_le hba hg.size
  have hcell : w5.cell? ⟨ad.block, ad.off + 1, none⟩ = some (.slice B 2 c) := by simpa [Addr.add] using hcell
  clear hb5 hg hL hi1
  go_wp2_with fail
  have hL : Ints (w5.alloc (.cells #[.int .i64 2, .int .i64 4] 3)) (some ⟨w5.heap.size, 0, none⟩) [2, 4] := Ints.lit rfl (by decide)
  refine (rf_Same _ _ [2, 4] [2, 4] _ 2 _ (by decide) rfl (hi4.grow (below_alloc (Below.refl _ _))) hL).mono ?_
  rintro e w6 ⟨rfl, hb6⟩
  have hb := below_then (below_alloc hb) hb6
  clear hb6 hL
  go_wp2
  go_ret
  exact ⟨rfl, hb⟩
end Go.Proofs.Ytlomhaabiodofaa
