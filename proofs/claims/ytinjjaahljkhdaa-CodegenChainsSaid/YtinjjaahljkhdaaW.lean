/- Words for memory: worlds that extend a world; regions that draw their order and whose calls make memory, walked once in the text's order. -/
import Derived.Test.YtinjjaahljkhdaaPq
import Derived.WalkKit
import Derived.BigQuiet
import Derived.BigGuardPart
import Derived.Deep.QuietTactic
import Derived.Lib.Hide
namespace Go.Proofs.Ytinjjaahljkhdaa
open Go.RowKit

theorem below_drewN {B : Nat} {a w : World} (h : Below B a w) (n : Nat) : Below B a (w.drewN n) := ⟨h.os, h.tape, h.output, h.size, h.block⟩

/-- A world that holds all that w holds, as it was, and perhaps more. -/
structure Ext (w : World) where
  to : World
  below : Below w.heap.size w to
instance (w : World) : Nonempty (Ext w) := ⟨⟨w, Below.refl _ _⟩⟩
theorem Ext.cell {w : World} (n : Ext w) (p : Addr) (h : p.block < w.heap.size) : n.to.cell? p = w.cell? p := n.below.cell h
theorem Ext.frozen {w : World} (n : Ext w) (p : Addr) (h : p.block < w.heap.size) : n.to.frozen? p = w.frozen? p := n.below.frozen h

/-- A region that draws its order, whose operations read old memory only and whose calls leave all old memory as it is and yield one and the same value: one walk in the text's order. -/
theorem wp_region_ext {P : Program} {id : Nat} {Q : Exit → Act → World → Prop} {a : Act} {w : World} {l : List Oper} (hm : P.follows .mixedOrders = true) (hB : Region.lexB .any l.toArray = true)
    (h : wpQuiet P l.toArray (fun w' => ∃ n : Ext w, w' = n.to) (fun a' => ∀ w', (∃ n : Ext w, w' = n.to) → Q .normal a' w') l a) : (Code.region id l.toArray true).wp P Q a w :=
  wp_region_quiet (C := fun w' => ∃ n : Ext w, w' = n.to) hm hB ⟨⟨{ w with drawn := w.drawn + 1 }, ⟨rfl, rfl, rfl, Nat.le_refl _, fun _ _ => rfl⟩⟩, rfl⟩ (by simpa using h)

/-- A call within such a region. -/
theorem ext_call {P : Program} {f : FuncId} {args : Array Value} {w : World} {n : Ext w} {v : Value} {R : Ending → World → Prop} (h : Calls P f args n.to R)
    (hR : ∀ e w', R e w' → e = .returned v ∧ Below n.to.heap.size n.to w') : Calls P f args n.to fun e w'' => e = .returned v ∧ ∃ m : Ext w, w'' = m.to :=
  h.mono fun e w' hr => by
    obtain ⟨h1, h2⟩ := hR e w' hr
    exact ⟨h1, ⟨w', n.below.trans (h2.mono n.below.size)⟩, rfl⟩
theorem ext_below {P : Program} {f : FuncId} {args : Array Value} {w : World} {n : Ext w} {v : Value} (h : Calls P f args n.to fun e w' => e = .returned v ∧ Below n.to.heap.size n.to w') :
    Calls P f args n.to fun e w'' => e = .returned v ∧ ∃ m : Ext w, w'' = m.to := ext_call h fun _ _ h => h
theorem ext_same {P : Program} {f : FuncId} {args : Array Value} {w : World} {n : Ext w} {v : Value} (h : Calls P f args n.to fun e w' => e = .returned v ∧ n.to = w') :
    Calls P f args n.to fun e w'' => e = .returned v ∧ ∃ m : Ext w, w'' = m.to := ext_call h fun _ _ h => ⟨h.1, by rw [← h.2]; exact Below.refl _ _⟩
end Go.Proofs.Ytinjjaahljkhdaa
