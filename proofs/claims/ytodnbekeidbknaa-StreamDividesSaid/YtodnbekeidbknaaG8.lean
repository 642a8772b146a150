/- The walk of Valid of the reference of layer 22. -/
import Derived.Test.YtodnbekeidbknaaPt
set_option linter.unusedVariables false
set_option linter.unusedSimpArgs false
namespace Go.Proofs.Ytodnbekeidbknaa
open Go.RowKit

theorem below_net {w w' : World} {o : Obj} (h : Below (w.alloc o).heap.size (w.alloc o) w') : Below (w.heap.size + 1) (w.alloc o) w' := h.mono (by simp)
theorem below_net3 {w w1 w2 : World} {o : Obj} (hb : Below (w.heap.size + 1) (w.alloc o) w1) (hb1 : Below w1.heap.size w1 w2) : Below (w.heap.size + 1) (w.alloc o) w2 := hb.trans (hb1.mono (by have := hb.size; simpa using this))
theorem below_net2 {w w' : World} {o : Obj} (h : Below (w.heap.size + 1) (w.alloc o) w') : Below w.heap.size w w' := ((Below.refl _ _).alloc (Nat.le_refl _) o).trans (h.mono (by omega))
/-- What holds of all worlds that grew out of the one where the network was laid. -/
structure NetP (w : World) (P : World → Prop) (d0 d1 d2 d3 c0 c1 c2 c3 st : Int) (NA : Option Addr) (ns : List (List (Int × Int))) (nn nc : Nat) (XA : Option Addr) (nx : List Int) (xn xc : Nat) (out : Int) : Prop where
  go : ∀ w1 w2, P w1 → Below w1.heap.size w1 w2 → P w2
  al : ∀ w1 o, P w1 → P (w1.alloc o)
  old : ∀ w1, P w1 → Below w.heap.size w w1
  cells : ∀ w1, P w1 → w1.cell? ⟨w.heap.size, 4, none⟩ = some (.int .i64 c0) ∧ w1.cell? ⟨w.heap.size, 5, none⟩ = some (.int .i64 c1) ∧ w1.cell? ⟨w.heap.size, 6, none⟩ = some (.int .i64 c2) ∧ w1.cell? ⟨w.heap.size, 7, none⟩ = some (.int .i64 c3) ∧
      w1.cell? ⟨w.heap.size, 8, none⟩ = some (.int .i64 st) ∧ w1.cell? ⟨w.heap.size, 9, none⟩ = some (.slice NA nn nc) ∧ w1.cell? ⟨w.heap.size, 10, none⟩ = some (.slice XA xn xc) ∧ w1.cell? ⟨w.heap.size, 11, none⟩ = some (.int .i64 out)
  nodes : ∀ w1, P w1 → NodesAt w1 NA ns
  next : ∀ w1, P w1 → Ints w1 XA nx
  lt : ∀ w1, P w1 → w.heap.size < w1.heap.size
theorem netP_mk {w : World} {d0 d1 d2 d3 c0 c1 c2 c3 st : Int} {NA : Option Addr} {ns : List (List (Int × Int))} {nn nc : Nat} {XA : Option Addr} {nx : List Int} {xn xc : Nat} {out : Int} (hN : NodesAt w NA ns) (hX : Ints w XA nx) :
    NetP w (Below (w.heap.size + 1) (w.alloc (.cells #[.int .i64 d0, .int .i64 d1, .int .i64 d2, .int .i64 d3, .int .i64 c0, .int .i64 c1, .int .i64 c2, .int .i64 c3, .int .i64 st, .slice NA nn nc, .slice XA xn xc, .int .i64 out] 31))) d0 d1 d2 d3 c0 c1 c2 c3 st NA ns nn nc XA nx xn xc out where
  go := fun w1 w2 h1 h2 => below_net3 h1 h2
  al := fun w1 o h1 => h1.alloc (by have := h1.size; simpa using this) o
  old := fun w1 h1 => below_net2 h1
  cells := fun w' h =>
    ⟨(h.cell (Nat.lt_succ_self _)).trans (by simp [go_sem]), (h.cell (Nat.lt_succ_self _)).trans (by simp [go_sem]), (h.cell (Nat.lt_succ_self _)).trans (by simp [go_sem]), (h.cell (Nat.lt_succ_self _)).trans (by simp [go_sem]), (h.cell (Nat.lt_succ_self _)).trans (by simp [go_sem]), (h.cell (Nat.lt_succ_self _)).trans (by simp [go_sem]), (h.cell (Nat.lt_succ_self _)).trans (by simp [go_sem]), (h.cell (Nat.lt_succ_self _)).trans (by simp [go_sem])⟩
  nodes := fun w1 h1 => hN.grow (below_net2 h1)
  next := fun w1 h1 => hX.grow (below_net2 h1)
  lt := fun w1 h1 => by have := h1.size; simp at this; omega
theorem cell_al2 {wr w5 : World} {a b : Value} {T : TypeId} (h : Below (wr.alloc (.cells #[a, b] T)).heap.size (wr.alloc (.cells #[a, b] T)) w5) : w5.cell? ⟨wr.heap.size, 0, none⟩ = some a ∧ w5.cell? ⟨wr.heap.size, 1, none⟩ = some b :=
  ⟨(h.cell (by simp)).trans (by simp [go_sem]), (h.cell (by simp)).trans (by simp [go_sem])⟩
theorem netB_nodes {d0 d1 d2 d3 c0 c1 c2 c3 st out : Int} {ns : List (List (Int × Int))} {nx : List Int} (h : nodesB c0 c1 c2 c3 st ns ns.length = false) : netB d0 d1 d2 d3 c0 c1 c2 c3 st ns nx out = false := by
  unfold netB; rw [h]; simp
theorem nodeB_terms {c0 c1 c2 c3 last : Int} {ts : List (Int × Int)} (h : ts.all (termB c0 c1 c2 c3 last) = false) : nodeB c0 c1 c2 c3 last ts = false := by unfold nodeB; rw [h]; simp
theorem nodeB_long {c0 c1 c2 c3 last : Int} {ts : List (Int × Int)} (h : ¬ ts.length ≤ 64) : nodeB c0 c1 c2 c3 last ts = false := by unfold nodeB; rw [decide_eq_false h]; simp
theorem netB_next {d0 d1 d2 d3 c0 c1 c2 c3 st out : Int} {ns : List (List (Int × Int))} {nx : List Int} (h : (nx.all fun v => inB v 0 (st + ns.length)) = false) : netB d0 d1 d2 d3 c0 c1 c2 c3 st ns nx out = false := by
  unfold netB; rw [h]; simp
theorem netB_end {d0 d1 d2 d3 c0 c1 c2 c3 st out : Int} {ns : List (List (Int × Int))} {nx : List Int} (h1 : netHeadB d0 d1 d2 d3 c0 c1 c2 c3 st ns.length nx.length = true) (h2 : nodesB c0 c1 c2 c3 st ns ns.length = true) (h3 : (nx.all fun v => inB v 0 (st + ns.length)) = true) : netB d0 d1 d2 d3 c0 c1 c2 c3 st ns nx out = inB out 0 (st + ns.length) := by
  unfold netB; rw [h1, h2, h3]; simp
theorem termB_eq {c0 c1 c2 c3 last Q f v : Int} (hQ : (2 : Int) ^ c1.toNat = Q) : termB c0 c1 c2 c3 last (f, v) = (inB f 0 last && (fitsW c0 c1 c2 c3 v || v == Q)) := by unfold termB; rw [hQ]
theorem netB_head {d0 d1 d2 d3 c0 c1 c2 c3 st out : Int} {ns : List (List (Int × Int))} {nx : List Int} (h : netHeadB d0 d1 d2 d3 c0 c1 c2 c3 st ns.length nx.length = false) : netB d0 d1 d2 d3 c0 c1 c2 c3 st ns nx out = false := by
  unfold netB; rw [h]; rfl
end Go.Proofs.Ytodnbekeidbknaa
