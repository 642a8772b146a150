/- The walks of law32's own functions: known, gcd, exchanged. -/
import Derived.Test.YtinjjaahljkhdaaMr
import Derived.Test.YtinjjaahljkhdaaLa
import Derived.ProofKit
namespace Go.Proofs.Ytinjjaahljkhdaa
open Go.RowKit

theorem add_cells {b k : Nat} : (⟨b, 0, none⟩ : Addr).add k = ⟨b, k, none⟩ := by
  unfold Addr.add
  by_cases h0 : k = 0 <;> simp [h0]
theorem Row.lit {w : World} {cs : Array Value} {t : TypeId} : Row (w.alloc (.cells cs t)) (w.alloc (.cells cs t)).heap.size (some ⟨w.heap.size, 0, none⟩) cs.toList := fun k v hk => by
  refine ⟨_, rfl, by simp, ?_⟩
  rw [add_cells]
  simpa [go_sem] using hk
theorem Ints.lit {w : World} {cs : Array Value} {t : TypeId} {l : List Int} (hc : cs.toList = l.map (Value.int .i64)) (hl : l.all (fun x => decide (-9223372036854775808 ≤ x) && decide (x ≤ 9223372036854775807)) = true) : Ints (w.alloc (.cells cs t)) (some ⟨w.heap.size, 0, none⟩) l := by
  refine ⟨?_, fun x hx => by have := List.all_eq_true.1 hl x hx; simp at this; exact this⟩
  rw [← hc]
  exact Row.lit
theorem Ints.litn {w : World} {n : Nat} {cs : Array Value} {t : TypeId} {l : List Int} (hn : n = w.heap.size) (hc : cs.toList = l.map (Value.int .i64)) (hl : l.all (fun x => decide (-9223372036854775808 ≤ x) && decide (x ≤ 9223372036854775807)) = true) : Ints (w.alloc (.cells cs t)) (some ⟨n, 0, none⟩) l := by
  subst hn; exact Ints.lit hc hl
theorem below_alloc {W w : World} {o : Obj} (h : Below W.heap.size W w) : Below W.heap.size W (w.alloc o) := h.alloc h.size _
theorem IntsL.lit2 {w : World} {t : TypeId} {B1 B2 : Option Addr} {l1 l2 : List Int} {n1 n2 c1 c2 : Nat} (e1 : n1 = l1.length) (e2 : n2 = l2.length) (h1 : Ints w B1 l1) (h2 : Ints w B2 l2) :
    IntsL (w.alloc (.cells #[.slice B1 n1 c1, .slice B2 n2 c2] t)) (some ⟨w.heap.size, 0, none⟩) [l1, l2] := by
  subst e1 e2
  have hb : Below w.heap.size w (w.alloc (.cells #[.slice B1 l1.length c1, .slice B2 l2.length c2] t)) := (Below.refl _ _).alloc (Nat.le_refl _) _
  intro k l hk
  match k, hk with
  | 0, hk => simp at hk; subst hk; exact ⟨_, B1, c1, rfl, by simp, by simp [go_sem, Addr.add], h1.grow hb⟩
  | 1, hk => simp at hk; subst hk; exact ⟨_, B2, c2, rfl, by simp, by simp [go_sem, Addr.add], h2.grow hb⟩
theorem IntsL.lit2n {w : World} {n : Nat} {t : TypeId} {B1 B2 : Option Addr} {l1 l2 : List Int} {n1 n2 c1 c2 : Nat} (hn : n = w.heap.size) (e1 : n1 = l1.length) (e2 : n2 = l2.length) (h1 : Ints w B1 l1) (h2 : Ints w B2 l2) :
    IntsL (w.alloc (.cells #[.slice B1 n1 c1, .slice B2 n2 c2] t)) (some ⟨n, 0, none⟩) [l1, l2] := by
  subst hn; exact IntsL.lit2 e1 e2 h1 h2

/-- A call hands back a slice that reads as l, and the number E. -/
def GetInts (w : World) (l : List Int) (E : Int) (e : Ending) (w' : World) : Prop := ∃ A c, e = .returned (.tuple #[.slice A l.length c, .int .i64 E]) ∧ Ints w' A l ∧ Below w.heap.size w w'
theorem RetInts.get {w w' : World} {l : List Int} {E : Int} {e : Ending} (h : RetInts w l E e w') : GetInts w l E e w' := by
  obtain ⟨v, rfl, ho, hb⟩ := h
  obtain ⟨A, c, rfl, _, hi⟩ := ho.form
  exact ⟨A, c, rfl, hi, hb⟩
theorem rf_Same (A B : Option Addr) (l m : List Int) (c d : Nat) (w : World) (hm : m.length ≤ 9223372036854775807) (he : l = m) (h : Ints w A l) (g : Ints w B m) :
    Calls Try.prog 11 #[.slice A l.length c, .slice B m.length d] w fun e w' => e = .returned (.bool true) ∧ Below w.heap.size w w' :=
  (rf_SameInts A B l m c d w hm h g).mono fun e w' hh => ⟨by rw [hh.1, he]; simp, hh.2⟩
end Go.Proofs.Ytinjjaahljkhdaa
