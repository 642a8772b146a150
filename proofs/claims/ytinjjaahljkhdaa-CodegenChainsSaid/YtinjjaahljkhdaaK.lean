/- Slices of numbers that the call makes by make, and stores into them. -/
import Derived.Test.YtinjjaahljkhdaaA
import Derived.Laws.MakeOwn
namespace Go.Proofs.Ytinjjaahljkhdaa
open Go.RowKit

theorem Own.cell {base : Nat} {w : World} {g n c : Nat} {l : List Int} (h : Own base w (.slice (some ⟨g, 0, none⟩) n c) l) {k : Nat} {y : Int} (hk : l[k]? = some y) : w.cell? ⟨g, k, none⟩ = some (.int .i64 y) := by
  obtain ⟨A, c', e, _⟩ := own_form h.1
  injection e with _ e2
  subst e2
  have hkl := (List.getElem?_eq_some_iff.1 hk).1
  rw [h.1.cellAt k (by omega), List.getElem?_map, hk]; rfl
theorem Own.free {base : Nat} {w : World} {g n c : Nat} {l : List Int} (h : Own base w (.slice (some ⟨g, 0, none⟩) n c) l) (k : Nat) : w.frozen? ⟨g, k, none⟩ = false := by
  obtain ⟨A, c', e, _⟩ := own_form h.1
  injection e with _ e2
  subst e2
  exact h.1.frozenAt k
theorem Own.block {base : Nat} {w : World} {g n c : Nat} {l : List Int} (h : Own base w (.slice (some ⟨g, 0, none⟩) n c) l) : base ≤ g ∧ g < w.heap.size := h.1.lt g rfl
theorem Own.set {base : Nat} {w : World} {g n c : Nat} {l : List Int} (h : Own base w (.slice (some ⟨g, 0, none⟩) n c) l) (k : Nat) {y : Int} (hy : I64 y) :
    Own base (w.setCell ⟨g, k, none⟩ (.int .i64 y)) (.slice (some ⟨g, 0, none⟩) n c) (l.set k y) := by
  obtain ⟨A, c', e, _⟩ := own_form h.1
  injection e with _ e2
  subst e2
  have := (h.1.stored k (.int .i64 y)).1
  refine ⟨by rw [List.length_set, List.map_set]; exact this, fun q hq => ?_⟩
  rcases List.mem_or_eq_of_mem_set hq with hq | hq
  · exact h.2 q hq
  · rw [hq]; exact hy
theorem below_set {base : Nat} {a w : World} {g k : Nat} {u : Value} (h : Below base a w) (hg : base ≤ g) : Below base a (w.setCell ⟨g, k, none⟩ u) := h.setCell hg u

theorem zeros_cells (n : Nat) : (madeCells (Value.int .i64 0).cells (n * 1)).toList = (List.replicate n (0 : Int)).map (Value.int .i64) := by
  apply List.ext_getElem?
  intro k
  simp only [madeCells, Value.cells, Array.toList_map, Array.toList_range, List.getElem?_map, List.getElem?_replicate, Nat.mul_one]
  rcases Nat.lt_or_ge k n with h | h
  · rw [List.getElem?_range h]; simp [h, Nat.mod_one]
  · rw [List.getElem?_eq_none (by simpa using h)]; simp; omega
/-- make([]int, n). -/
theorem mk_int {ops : Array Oper} {rest : List Oper} {o : Oper} {a : Act} {Q : Exit → Act → World → Prop} {w : World} (hg : o.guard = none) (s c : Operand) (hop : o.op = Op.makeSlice 25 s c)
    (base n : Nat) {N : Int} (hs : a.eval s = .int .i64 N) (hc : a.eval c = .int .i64 N) (hN : N = (n : Int)) (hn : n ≤ 100000000) (hb : base ≤ w.heap.size)
    (h : ∀ w', Own base w' (.slice (some ⟨w.heap.size, 0, none⟩) n n) (List.replicate n 0) → Below w.heap.size w w' → wpList Try.prog ops Q rest (a.put o.dst (.slice (some ⟨w.heap.size, 0, none⟩) n n)) w') :
    wpList Try.prog ops Q (o :: rest) a w := by
  subst hN
  obtain ⟨i0, hi, hz0, hz1, hz2⟩ := info_parts info_int
  refine wpList_make_full w hg s c 25 hop base 3 i0 (.int .i64 0) 1 Try.underlying25 hi hz0 hz1 .i64 .i64 n n n hs hc rfl rfl (by rw [hz2]; omega) (by unfold maxLen; omega) hb fun w' h1 h2 => h w' ⟨?_, ?_⟩ ?_
  · rw [List.length_replicate, ← zeros_cells]; exact h1
  · intro q hq; rw [List.eq_of_mem_replicate hq]; exact ⟨by decide, by decide⟩
  · exact (Below.refl _ _).grown h2 (Nat.le_refl _) (by intro k hk; cases hk)
theorem step_mk_int {ops : Array Oper} {o : Oper} {a : Act} {K : Act → World → Prop} {Q : Exit → Act → World → Prop} {E : Prop} {w : World} (hg : o.guard = none) (s c : Operand) (hop : o.op = Op.makeSlice 25 s c)
    (base n : Nat) {N : Int} (hs : a.eval s = .int .i64 N) (hc : a.eval c = .int .i64 N) (hN : N = (n : Int)) (hn : n ≤ 100000000) (hb : base ≤ w.heap.size)
    (h : ∀ w', Own base w' (.slice (some ⟨w.heap.size, 0, none⟩) n n) (List.replicate n 0) → Below w.heap.size w w' → K (a.put o.dst (.slice (some ⟨w.heap.size, 0, none⟩) n n)) w') :
    if Region.wanted o (yielded ops a.tmps) = true then Oper.wp Try.prog o a w K Q else E := by
  have hw : Region.wanted o (yielded ops a.tmps) = true := by simp [Region.wanted, hg]
  rw [if_pos hw]
  subst hN
  obtain ⟨i0, hi, hz0, hz1, hz2⟩ := info_parts info_int
  obtain ⟨w', hrun, r1, r2⟩ := run_make_full (P := Try.prog) w base 25 3 i0 (.int .i64 0) 1 Try.underlying25 hi hz0 hz1 .i64 .i64 n (by rw [hz2]; omega) (by unfold maxLen; omega) hb
  unfold Oper.wp
  simp [execOp, hop, hs, hc, hrun, Result.andThen]
  refine h w' ⟨?_, ?_⟩ ?_
  · rw [List.length_replicate, ← zeros_cells]; exact r1
  · intro q hq; rw [List.eq_of_mem_replicate hq]; exact ⟨by decide, by decide⟩
  · exact (Below.refl _ _).grown r2 (Nat.le_refl _) (by intro k hk; cases hk)
/-- A call hands back a slice of its own that reads as l, and the number E. -/
def RetInts (w : World) (l : List Int) (E : Int) (e : Ending) (w' : World) : Prop := ∃ v, e = .returned (.tuple #[v, .int .i64 E]) ∧ Own w.heap.size w' v l ∧ Below w.heap.size w w'
theorem RetInts.mk {w w' : World} {l : List Int} {E : Int} {v : Value} (ho : Own w.heap.size w' v l) (hb : Below w.heap.size w w') : RetInts w l E (.returned (.tuple #[v, .int .i64 E])) w' := ⟨v, rfl, ho, hb⟩
/-- A call hands back a slice of its own that reads as l. -/
def RetInts1 (w : World) (l : List Int) (e : Ending) (w' : World) : Prop := ∃ v, e = .returned v ∧ Own w.heap.size w' v l ∧ Below w.heap.size w w'
theorem RetInts1.mk {w w' : World} {l : List Int} {v : Value} (ho : Own w.heap.size w' v l) (hb : Below w.heap.size w w') : RetInts1 w l (.returned v) w' := ⟨v, rfl, ho, hb⟩
end Go.Proofs.Ytinjjaahljkhdaa
