/- Networks in the heap: terms of two cells, nodes of one; when a network is valid. -/
import Derived.Test.YtinjjaahljkhdaaG6
namespace Go.Proofs.Ytinjjaahljkhdaa
open Go.RowKit

/-- A slice of terms (from, coefficient) that reads as ts. -/
def TermsAt (w : World) (A : Option Addr) (ts : List (Int × Int)) : Prop :=
  ∀ (k : Nat) t, ts[k]? = some t → ∃ ad, A = some ad ∧ ad.block < w.heap.size ∧ w.cell? (ad.add (k * 2)) = some (.int .i64 t.1) ∧ w.cell? ⟨(ad.add (k * 2)).block, (ad.add (k * 2)).off + 1, none⟩ = some (.int .i64 t.2) ∧ I64 t.1 ∧ I64 t.2
/-- A slice of nodes that reads as ns. -/
def NodesAt (w : World) (A : Option Addr) (ns : List (List (Int × Int))) : Prop :=
  ∀ (k : Nat) ts, ns[k]? = some ts → ∃ ad B c, A = some ad ∧ ad.block < w.heap.size ∧ w.cell? (ad.add k) = some (.slice B ts.length c) ∧ TermsAt w B ts
theorem TermsAt.nil {w : World} {A : Option Addr} : TermsAt w A [] := fun k t h => by simp at h
theorem NodesAt.nil {w : World} {A : Option Addr} : NodesAt w A [] := fun k t h => by simp at h
theorem TermsAt.grow {w w' : World} {A : Option Addr} {ts : List (Int × Int)} (h : TermsAt w A ts) (hb : Below w.heap.size w w') : TermsAt w' A ts := fun k t hk => by
  obtain ⟨ad, e, h1, c0, c1, i1, i2⟩ := h k t hk
  exact ⟨ad, e, Nat.lt_of_lt_of_le h1 hb.size, (hb.cell (by rw [block_add]; exact h1)).trans c0, (hb.cell (by show (ad.add _).block < _; rw [block_add]; exact h1)).trans c1, i1, i2⟩
theorem NodesAt.grow {w w' : World} {A : Option Addr} {ns : List (List (Int × Int))} (h : NodesAt w A ns) (hb : Below w.heap.size w w') : NodesAt w' A ns := fun k ts hk => by
  obtain ⟨ad, B, c, e, h1, c0, ht⟩ := h k ts hk
  exact ⟨ad, B, c, e, Nat.lt_of_lt_of_le h1 hb.size, (hb.cell (by rw [block_add]; exact h1)).trans c0, ht.grow hb⟩
/-- A term of node k of a network of s states is valid. -/
def termB (c0 c1 c2 c3 : Int) (last : Int) (t : Int × Int) : Bool := inB t.1 0 last && (fitsW c0 c1 c2 c3 t.2 || t.2 == (2 : Int) ^ c1.toNat)
def nodeB (c0 c1 c2 c3 : Int) (last : Int) (ts : List (Int × Int)) : Bool := decide (ts.length ≤ 64) && ts.all (termB c0 c1 c2 c3 last)
/-- The first k nodes are valid. -/
def nodesB (c0 c1 c2 c3 st : Int) (ns : List (List (Int × Int))) (k : Nat) : Bool := (List.range k).all fun i => match ns[i]? with | some ts => nodeB c0 c1 c2 c3 (st + i) ts | none => true
theorem nodesB_succ {c0 c1 c2 c3 st : Int} {ns : List (List (Int × Int))} {k : Nat} {ts : List (Int × Int)} (h : ns[k]? = some ts) : nodesB c0 c1 c2 c3 st ns (k + 1) = (nodesB c0 c1 c2 c3 st ns k && nodeB c0 c1 c2 c3 (st + k) ts) := by
  unfold nodesB
  rw [List.range_succ, List.all_append]
  simp [h]
theorem nodesB_no {c0 c1 c2 c3 st : Int} {ns : List (List (Int × Int))} {k : Nat} {ts : List (Int × Int)} (h : ns[k]? = some ts) (hn : nodeB c0 c1 c2 c3 (st + k) ts = false) : nodesB c0 c1 c2 c3 st ns ns.length = false := by
  have hk := (List.getElem?_eq_some_iff.1 h).1
  unfold nodesB
  rw [List.all_eq_false]
  exact ⟨k, List.mem_range.2 hk, by rw [h]; simp [hn]⟩
/-- The parts of a network that are looked at before its nodes. -/
def netHeadB (d0 d1 d2 d3 c0 c1 c2 c3 st : Int) (nn xn : Nat) : Bool := okW d0 d1 d2 d3 && (okW c0 c1 c2 c3 && (inB st 0 64 && (decide (nn ≤ 64) && ((xn : Int) == st))))
def netB (d0 d1 d2 d3 c0 c1 c2 c3 st : Int) (ns : List (List (Int × Int))) (nx : List Int) (out : Int) : Bool :=
  netHeadB d0 d1 d2 d3 c0 c1 c2 c3 st ns.length nx.length && (nodesB c0 c1 c2 c3 st ns ns.length && ((nx.all fun v => inB v 0 (st + ns.length)) && inB out 0 (st + ns.length)))
/-- What Chains needs of a valid network. -/
theorem netB_use {d0 d1 d2 d3 c0 c1 c2 c3 st out : Int} {ns : List (List (Int × Int))} {nx : List Int} (h : netB d0 d1 d2 d3 c0 c1 c2 c3 st ns nx out = true) : st = (nx.length : Int) ∧ (nx.length = nx.length ∧ ∀ v ∈ nx, 0 ≤ v ∧ v ≤ 1000000) ∧ nx.length ≤ 64 := by
  unfold netB netHeadB at h
  simp only [Bool.and_eq_true, decide_eq_true_eq, beq_iff_eq] at h
  obtain ⟨⟨_, _, h1, h2, h3⟩, _, h4, _⟩ := h
  have h1 := inB_iff.1 h1
  refine ⟨h3.symm, ⟨rfl, fun v hv => ?_⟩, by omega⟩
  have := inB_iff.1 (List.all_eq_true.1 h4 v hv)
  omega
end Go.Proofs.Ytinjjaahljkhdaa
