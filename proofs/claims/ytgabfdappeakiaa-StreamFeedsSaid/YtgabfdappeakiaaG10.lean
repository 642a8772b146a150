/- The walk of chains of the law of layer 41: both Chains answer alike, for any network. -/
import Derived.Test.YtgabfdappeakiaaG9
import Derived.Test.YtgabfdappeakiaaPs
set_option linter.unusedVariables false
set_option linter.unusedSimpArgs false
namespace Go.Proofs.Ytgabfdappeakiaa
open Go.RowKit

theorem preF_le (nx : List Int) (s : Nat) : ∀ k, (preF nx s k).length ≤ k
  | 0 => Nat.le_refl _
  | k + 1 => by
    have := preF_le nx s k
    show (preF nx s k ++ (match itF nx s k with | some x => [(x : Int)] | none => [])).length ≤ k + 1
    rw [List.length_append]
    split <;> simp <;> omega
theorem lnF_bound (nx : List Int) : ∀ k, ∀ l ∈ lnF nx k, l.length ≤ nx.length
  | 0, l, h => by cases h
  | k + 1, l, h => by
    change l ∈ lnF nx k ++ (if ledB nx nx.length k then [] else [lineF nx k]) at h
    rcases List.mem_append.1 h with h | h
    · exact lnF_bound nx k l h
    · split at h
      · cases h
      · simp only [List.mem_singleton] at h
        subst h
        exact preF_le nx k nx.length
/-- The value of a network that reads so in the heap. -/
structure NetOk (w : World) (NA : Option Addr) (ns : List (List (Int × Int))) (XA : Option Addr) (nx : List Int) (st : Int) : Prop where
  nodes : NodesAt w NA ns
  next : Ints w XA nx
  n1 : ns.length ≤ 9223372036854775807
  n2 : nx.length ≤ 9223372036854775807
  n3 : ∀ ts ∈ ns, ts.length ≤ 9223372036854775807
  st : I64 st
theorem NetOk.grow {w w' : World} {NA : Option Addr} {ns : List (List (Int × Int))} {XA : Option Addr} {nx : List Int} {st : Int} (h : NetOk w NA ns XA nx st) (hb : Below w.heap.size w w') : NetOk w' NA ns XA nx st :=
  ⟨h.nodes.grow hb, h.next.grow hb, h.n1, h.n2, h.n3, h.st⟩
theorem net_cells {w w1 : World} {d0 d1 d2 d3 c0 c1 c2 c3 st out : Int} {N X : Value}
    (h : Below (w.alloc (.cells #[.int .i64 d0, .int .i64 d1, .int .i64 d2, .int .i64 d3, .int .i64 c0, .int .i64 c1, .int .i64 c2, .int .i64 c3, .int .i64 st, N, X, .int .i64 out] 31)).heap.size (w.alloc (.cells #[.int .i64 d0, .int .i64 d1, .int .i64 d2, .int .i64 d3, .int .i64 c0, .int .i64 c1, .int .i64 c2, .int .i64 c3, .int .i64 st, N, X, .int .i64 out] 31)) w1) :
    (w1.cell? ⟨w.heap.size, 0, none⟩ = some (.int .i64 d0) ∧ w1.cell? ⟨w.heap.size, 1, none⟩ = some (.int .i64 d1) ∧ w1.cell? ⟨w.heap.size, 2, none⟩ = some (.int .i64 d2) ∧ w1.cell? ⟨w.heap.size, 3, none⟩ = some (.int .i64 d3)) ∧
    (w1.cell? ⟨w.heap.size, 4, none⟩ = some (.int .i64 c0) ∧ w1.cell? ⟨w.heap.size, 5, none⟩ = some (.int .i64 c1) ∧ w1.cell? ⟨w.heap.size, 6, none⟩ = some (.int .i64 c2) ∧ w1.cell? ⟨w.heap.size, 7, none⟩ = some (.int .i64 c3)) ∧
    w1.cell? ⟨w.heap.size, 8, none⟩ = some (.int .i64 st) ∧ w1.cell? ⟨w.heap.size, 9, none⟩ = some N ∧ w1.cell? ⟨w.heap.size, 10, none⟩ = some X ∧ w1.cell? ⟨w.heap.size, 11, none⟩ = some (.int .i64 out) :=
  have a := fun (k : Nat) => h.cell (p := ⟨w.heap.size, k, none⟩) (by simp)
  ⟨⟨(a 0).trans (by simp [go_sem]), (a 1).trans (by simp [go_sem]), (a 2).trans (by simp [go_sem]), (a 3).trans (by simp [go_sem])⟩, ⟨(a 4).trans (by simp [go_sem]), (a 5).trans (by simp [go_sem]), (a 6).trans (by simp [go_sem]), (a 7).trans (by simp [go_sem])⟩,
    (a 8).trans (by simp [go_sem]), (a 9).trans (by simp [go_sem]), (a 10).trans (by simp [go_sem]), (a 11).trans (by simp [go_sem])⟩
end Go.Proofs.Ytgabfdappeakiaa
