/- Networks as arguments, with all cells; the walks of follow, wrong and compute of package network. -/
import Derived.Test.YtemefigbnjkdoaaDoorT1
import Derived.Test.YtemefigbnjkdoaaDoorG10
import Derived.Test.YtemefigbnjkdoaaDoorPr
import Derived.Test.YtemefigbnjkdoaaDoorU
set_option linter.unusedVariables false
set_option linter.unusedSimpArgs false
namespace Go.Proofs.YtemefigbnjkdoaaDoor
open Go.RowKit

/-- make([]int, 0, n). -/
theorem mk_int0 {ops : Array Oper} {rest : List Oper} {o : Oper} {a : Act} {Q : Exit → Act → World → Prop} {w : World} (hg : o.guard = none) (s c : Operand) (hop : o.op = Op.makeSlice 28 s c)
    (base n : Nat) {N : Int} (hs : a.eval s = .int .i64 0) (hc : a.eval c = .int .i64 N) (hN : N = (n : Int)) (hn : n ≤ 100000000) (hb : base ≤ w.heap.size)
    (h : ∀ w', Own base w' (.slice (some ⟨w.heap.size, 0, none⟩) 0 n) [] → Below w.heap.size w w' → wpList Tryd.prog ops Q rest (a.put o.dst (.slice (some ⟨w.heap.size, 0, none⟩) 0 n)) w') :
    wpList Tryd.prog ops Q (o :: rest) a w := by
  subst hN
  obtain ⟨i0, hi, hz0, hz1, hz2⟩ := info_parts info_int
  refine wpList_make_own w hg s c 28 hop base 3 i0 (.int .i64 0) 1 Tryd.underlying28 hi hz0 hz1 .i64 .i64 n n hs hc rfl (by rw [hz2]; omega) (by unfold maxLen; omega) hb fun w' h1 h2 => h w' ⟨h1, by simp⟩ ((Below.refl _ _).grown h2 (Nat.le_refl _) (by intro k hk; cases hk))
theorem own_below {a w w' : World} {b : Nat} {v : Value} (h : Below b a w) (hb : b ≤ w.heap.size) (hv : ∀ k, v.ownBlock = some k → b ≤ k) (hg : w.grownBy w' v.ownBlock) : Below b a w' := h.grown hg hb hv
theorem Own.ge {base : Nat} {w : World} {v : Value} {l : List Int} (h : Own base w v l) : ∀ k, v.ownBlock = some k → base ≤ k := fun k hk => (h.1.lt k hk).1
theorem Own.single {w : World} {x : Int} (hx : I64 x) : Own w.heap.size (w.alloc (.cells #[.int .i64 x] 3)) (.slice (some ⟨w.heap.size, 0, none⟩) 1 1) [x] := by
  refine ⟨?_, by simpa using hx⟩
  exact World.ownsRow_lit w #[.int .i64 x] 1 (Nat.le_refl _) (by unfold maxLen; omega) (by simp)
/-- append(v, s...) with a name for the length. -/
theorem app_intsN {ops : Array Oper} {rest : List Oper} {o : Oper} {a : Act} {Q : Exit → Act → World → Prop} (w : World) (hg : o.guard = none) (s x : Operand) (ho : o.op = .call { callee := .builtin .append, args := #[s, x], argTypes := #[28, 28] })
    (base : Nat) {v : Value} {l m : List Int} {A : Option Addr} {c n : Nat} (hs : a.eval s = v) (hx : a.eval x = .slice A n c) (hm : m.length = n) (hown : Own base w v l) (hI : Ints w A m) (hn : l.length + n ≤ 100000000) (hbase : base ≤ w.heap.size)
    (h : ∀ v' w', Own base w' v' (l ++ m) → Below base w w' → wpList Tryd.prog ops Q rest (a.put o.dst v') w') : wpList Tryd.prog ops Q (o :: rest) a w := by
  subst hm
  exact app_ints w hg s x ho base hs hx hown hI hn hbase fun v' w' h1 h2 _ => h v' w' h1 (own_below (Below.refl _ _) hbase hown.ge h2)
end Go.Proofs.YtemefigbnjkdoaaDoor
