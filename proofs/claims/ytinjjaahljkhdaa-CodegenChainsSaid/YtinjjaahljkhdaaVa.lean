/- The walk of Steps.Lifts. -/
import Derived.Test.YtinjjaahljkhdaaV9
import Derived.Deep.DeepCutAuto
import Derived.Handy
namespace Go.Proofs.Ytinjjaahljkhdaa
open Go.RowKit

/-- A slice of Booleans that reads as l. -/
def Bools (w : World) (A : Option Addr) (l : List Bool) : Prop := Row w w.heap.size A (l.map Value.bool)
theorem Bools.grow {w w' : World} {A : Option Addr} {l : List Bool} (h : Bools w A l) (hb : Below w.heap.size w w') : Bools w' A l := fun k v hk => by
  obtain ⟨ad, e, h1, h2⟩ := h k v hk
  exact ⟨ad, e, Nat.lt_of_lt_of_le h1 hb.size, (hb.cell (by rw [block_add]; exact h1)).trans h2⟩
/-- Four cells of a step that can be written. -/
def StepAt (w : World) (g : Nat) (b : Bool) (st sh : Int) (C : Option Addr) (n c : Nat) : Prop :=
  g < w.heap.size ∧ w.cell? ⟨g, 0, none⟩ = some (.bool b) ∧ w.cell? ⟨g, 1, none⟩ = some (.int .i64 st) ∧ w.cell? ⟨g, 2, none⟩ = some (.slice C n c) ∧ w.cell? ⟨g, 3, none⟩ = some (.int .i64 sh) ∧ w.frozen? ⟨g, 2, none⟩ = false
theorem StepAt.keep {w w' : World} {g : Nat} {b : Bool} {st sh : Int} {C : Option Addr} {n c : Nat} (h : StepAt w g b st sh C n c) (hb : Below w.heap.size w w') : StepAt w' g b st sh C n c := by
  obtain ⟨h0, h1, h2, h3, h4, h5⟩ := h
  exact ⟨Nat.lt_of_lt_of_le h0 hb.size, (hb.cell h0).trans h1, (hb.cell h0).trans h2, (hb.cell h0).trans h3, (hb.cell h0).trans h4, (hb.frozen (p := ⟨g, 2, none⟩) h0).trans h5⟩
theorem StepAt.set {w : World} {g : Nat} {b : Bool} {st sh : Int} {C D : Option Addr} {n c m d : Nat} (h : StepAt w g b st sh C n c) : StepAt (w.setCell ⟨g, 2, none⟩ (.slice D m d)) g b st sh D m d := by
  obtain ⟨h0, h1, h2, h3, h4, h5⟩ := h
  exact ⟨by simpa using h0, by simp [go_sem, h1], by simp [go_sem, h2], by simp [go_sem, h3], by simp [go_sem, h4], by simpa using h5⟩
theorem StepAt.new {a : World} {b : Bool} {st sh : Int} {C : Option Addr} {n c : Nat} {t : TypeId} : StepAt (a.alloc (.cells #[.bool b, .int .i64 st, .slice C n c, .int .i64 sh] t)).drew a.heap.size b st sh C n c :=
  ⟨by simp, by simp [go_sem], by simp [go_sem], by simp [go_sem], by simp [go_sem], by simp [go_sem]⟩
theorem StepAt.cell2 {w w' : World} {g : Nat} {b : Bool} {st sh : Int} {C : Option Addr} {n c : Nat} (h : Hid (StepAt w g b st sh C n c)) (hb : Below w.heap.size w w') : w'.cell? ⟨g, 2, none⟩ = some (.slice C n c) := (h.out.keep hb).2.2.2.1
theorem StepAt.free {w w' : World} {g : Nat} {b : Bool} {st sh : Int} {C : Option Addr} {n c : Nat} (h : Hid (StepAt w g b st sh C n c)) (hb : Below w.heap.size w w') : w'.frozen? ⟨g, 2, none⟩ = false := (h.out.keep hb).2.2.2.2.2
theorem cellS {a w' : World} {H B k : Nat} {v : Value} (hH : H < B) (hB : B ≤ a.heap.size) (S : Hid (a.cell? ⟨H, k, none⟩ = some v)) (b : Below a.heap.size a w') : w'.cell? ⟨H, k, none⟩ = some v := (b.cell (Nat.lt_of_lt_of_le hH hB)).trans S.out
theorem cellS2 {a w' : World} {H B k g : Nat} {v x : Value} (hH : H < B) (hB : B ≤ a.heap.size) (hg : B ≤ g) (S : Hid (a.cell? ⟨H, k, none⟩ = some v)) (b : Below a.heap.size a w') : (w'.setCell ⟨g, 2, none⟩ x).cell? ⟨H, k, none⟩ = some v := by
  rw [World.cell?_setCell_other _ _ _ _ (by intro hc; injection hc with hc; omega)]
  exact cellS hH hB S b
theorem ints3 {a : World} {x y z : Int} {t : TypeId} (h : I64 x ∧ I64 y ∧ I64 z) : Ints (a.alloc (.cells #[.int .i64 x, .int .i64 y, .int .i64 z] t)) (some ⟨a.heap.size, 0, none⟩) [x, y, z] := by
  refine litB rfl (List.all_eq_true.2 fun u hu => ?_)
  have hu2 : I64 u := by
    simp at hu
    rcases hu with rfl | rfl | rfl
    · exact h.1
    · exact h.2.1
    · exact h.2.2
  have u1 := hu2.1
  have u2 := hu2.2
  simp; omega
theorem ints3d {a : World} {x y z : Int} {t : TypeId} (h : I64 x ∧ I64 y ∧ I64 z) : Ints (a.alloc (.cells #[.int .i64 x, .int .i64 y, .int .i64 z] t)).drew (some ⟨a.heap.size, 0, none⟩) [x, y, z] := ints3 h
theorem Own.far {base n c : Nat} {w : World} {A : Option Addr} {l : List Int} (h : Own base w (.slice A n c) l) : ∀ a, A = some a → base ≤ a.block := fun a e => by subst e; exact (h.1.lt a.block rfl).1
theorem belowAD {a w' : World} {o : Obj} (h : Below (a.alloc o).drew.heap.size (a.alloc o).drew w') : Below a.heap.size a w' := ((Below.refl _ _).alloc (Nat.le_refl _) _).drew.trans (h.mono (by simp))
theorem sizeAD (a : World) (o : Obj) : a.heap.size ≤ (a.alloc o).drew.heap.size := by simp
theorem boxS {W w' : World} {B H : Nat} {v0 v1 v2 v3 : Value} (hH : H < B) (y : W.cell? ⟨H, 0, none⟩ = some v0 ∧ W.cell? ⟨H, 1, none⟩ = some v1 ∧ W.cell? ⟨H, 2, none⟩ = some v2 ∧ W.cell? ⟨H, 3, none⟩ = some v3) (h : Below B W w') :
    w'.cell? ⟨H, 0, none⟩ = some v0 ∧ w'.cell? ⟨H, 1, none⟩ = some v1 ∧ w'.cell? ⟨H, 2, none⟩ = some v2 ∧ w'.cell? ⟨H, 3, none⟩ = some v3 := by
  obtain ⟨y0, y1, y2, y3⟩ := y
  exact ⟨(h.cell hH).trans y0, (h.cell hH).trans y1, (h.cell hH).trans y2, (h.cell hH).trans y3⟩
theorem stepS {a w' : World} {H : Nat} {p : Addr} {x0 x1 x2 x3 y : Value} (hH : H < a.heap.size) (hp : p.block < a.heap.size) (S : Hid ((a.cell? ⟨H, 0, none⟩ = some x0 ∧ a.cell? ⟨H, 1, none⟩ = some x1 ∧ a.cell? ⟨H, 2, none⟩ = some x2 ∧ a.cell? ⟨H, 3, none⟩ = some x3) ∧ a.cell? p = some y)) (b : Below a.heap.size a w') :
    (w'.cell? ⟨H, 0, none⟩ = some x0 ∧ w'.cell? ⟨H, 1, none⟩ = some x1 ∧ w'.cell? ⟨H, 2, none⟩ = some x2 ∧ w'.cell? ⟨H, 3, none⟩ = some x3) ∧ w'.cell? p = some y := by
  obtain ⟨⟨y0, y1, y2, y3⟩, y4⟩ := S.out
  exact ⟨⟨(b.cell hH).trans y0, (b.cell hH).trans y1, (b.cell hH).trans y2, (b.cell hH).trans y3⟩, (b.cell hp).trans y4⟩
end Go.Proofs.Ytinjjaahljkhdaa
