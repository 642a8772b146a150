/- The walk of Valid of the reference of layer 22. -/
import Derived.Test.YtemefigbnjkdoaaDoorPt
set_option linter.unusedVariables false
set_option linter.unusedSimpArgs false
namespace Go.Proofs.YtemefigbnjkdoaaDoor
open Go.RowKit

theorem below_net {w w' : World} {o : Obj} (h : Below (w.alloc o).heap.size (w.alloc o) w') : Below (w.heap.size + 1) (w.alloc o) w' := h.mono (by simp)
theorem below_net3 {w w1 w2 : World} {o : Obj} (hb : Below (w.heap.size + 1) (w.alloc o) w1) (hb1 : Below w1.heap.size w1 w2) : Below (w.heap.size + 1) (w.alloc o) w2 := hb.trans (hb1.mono (by have := hb.size; simpa using this))
theorem below_net2 {w w' : World} {o : Obj} (h : Below (w.heap.size + 1) (w.alloc o) w') : Below w.heap.size w w' := ((Below.refl _ _).alloc (Nat.le_refl _) o).trans (h.mono (by omega))
theorem cell_al2 {wr w5 : World} {a b : Value} {T : TypeId} (h : Below (wr.alloc (.cells #[a, b] T)).heap.size (wr.alloc (.cells #[a, b] T)) w5) : w5.cell? ⟨wr.heap.size, 0, none⟩ = some a ∧ w5.cell? ⟨wr.heap.size, 1, none⟩ = some b :=
  ⟨(h.cell (by simp)).trans (by simp [go_sem]), (h.cell (by simp)).trans (by simp [go_sem])⟩
theorem netB_nodes {d0 d1 d2 d3 c0 c1 c2 c3 st out : Int} {ns : List (List (Int × Int))} {nx : List Int} (h : nodesB c0 c1 c2 c3 st ns ns.length = false) : netB d0 d1 d2 d3 c0 c1 c2 c3 st ns nx out = false := by
  unfold netB; rw [h]; simp
theorem nodeB_terms {c0 c1 c2 c3 last : Int} {ts : List (Int × Int)} (h : ts.all (termB c0 c1 c2 c3 last) = false) : nodeB c0 c1 c2 c3 last ts = false := by unfold nodeB; rw [h]; simp
theorem nodeB_long {c0 c1 c2 c3 last : Int} {ts : List (Int × Int)} (h : ¬ ts.length ≤ 64) : nodeB c0 c1 c2 c3 last ts = false := by unfold nodeB; rw [decide_eq_false h]; simp
theorem netB_next {d0 d1 d2 d3 c0 c1 c2 c3 st out : Int} {ns : List (List (Int × Int))} {nx : List Int} (h : (nx.all fun v => inB v 0 (st + ns.length)) = false) : netB d0 d1 d2 d3 c0 c1 c2 c3 st ns nx out = false := by
  unfold netB; rw [h]; simp
theorem netB_end {d0 d1 d2 d3 c0 c1 c2 c3 st out : Int} {ns : List (List (Int × Int))} {nx : List Int} (h1 : netHeadB d0 d1 d2 d3 c0 c1 c2 c3 st ns.length nx.length = true) (h2 : nodesB c0 c1 c2 c3 st ns ns.length = true) (h3 : (nx.all fun v => inB v 0 (st + ns.length)) = true) : netB d0 d1 d2 d3 c0 c1 c2 c3 st ns nx out = inB out 0 (st + ns.length) := by
  unfold netB; rw [h1, h2, h3]; simp
theorem termB_eq {c0 c1 c2 c3 last Q f v : Int} (hQ : (2 : Int) ^ c1.toNat = Q) : termB c0 c1 c2 c3 last (f, v) = (inB f 0 last && (fitsW c0 c1 c2 c3 v || v == Q)) := by unfold termB; rw [hQ]
theorem netB_head {d0 d1 d2 d3 c0 c1 c2 c3 st out : Int} {ns : List (List (Int × Int))} {nx : List Int} (h : netHeadB d0 d1 d2 d3 c0 c1 c2 c3 st ns.length nx.length = false) : netB d0 d1 d2 d3 c0 c1 c2 c3 st ns nx out = false := by
  unfold netB; rw [h]; rfl
end Go.Proofs.YtemefigbnjkdoaaDoor
