/- The walk of the law BankTurns. -/
import Derived.Test.YtinjjaahljkhdaaVb
import Derived.Test.YtinjjaahljkhdaaAs
namespace Go.Proofs.Ytinjjaahljkhdaa
open Go.RowKit

/-- append(v, s...) as a step of a region that draws its order. -/
theorem step_app_ints {ops : Array Oper} {o : Oper} {a : Act} {K : Act → World → Prop} {Q : Exit → Act → World → Prop} {E : Prop} (W : World) (hw : Region.wanted o (yielded ops a.tmps) = true) (s x : Operand)
    (ho : o.op = .call { callee := .builtin .append, args := #[s, x], argTypes := #[25, 25] }) (base : Nat) (l m : List Int)
    (hown : Own base W (a.eval s) l) (hx : ∃ A n c, a.eval x = .slice A n c ∧ Ints W A m ∧ m.length = n) (hn : l.length + m.length ≤ 100000000) (hbase : base ≤ W.heap.size)
    (h : ∀ v' w', Own base w' v' (l ++ m) → W.grownBy w' (a.eval s).ownBlock → Below base W w' → K (a.put o.dst v') w') :
    if Region.wanted o (yielded ops a.tmps) = true then Oper.wp Try.prog o a W K Q else E := by
  rw [if_pos hw]
  obtain ⟨A, n, c, hx, hI, rfl⟩ := hx
  obtain ⟨v', w', hrun, h1, h2, h3⟩ := run_app_ints W base o.type (a.eval s) l m A c hown hI hn hbase
  unfold Oper.wp execOp
  simp only [ho, resolve, invoke, builtin, Sem.run_bind, Sem.run_pure, Result.andThen_ok, List.map_toArray, List.map_cons, List.map_nil, hx, hrun]
  exact h _ _ h1 h2 ((Below.refl base W).grown h2 hbase (fun k hk => (hown.1.lt k hk).1))
theorem empA {w : World} : Own w.heap.size (w.alloc (.cells #[] 3)).drew (.slice (some ⟨w.heap.size, 0, none⟩) 0 0) [] := Own.empty rfl
theorem empB {w : World} {o : Obj} : Own w.heap.size ((w.alloc (.cells #[] 3)).alloc o).drew (.slice (some ⟨w.heap.size, 0, none⟩) 0 0) [] := (Own.empty rfl).grow ((Below.refl _ _).alloc (Nat.le_refl _) _).drew
theorem empC {w : World} {o : Obj} : Own w.heap.size ((w.alloc o).alloc (.cells #[] 3)).drew (.slice (some ⟨w.heap.size + 1, 0, none⟩) 0 0) [] := (Own.empty (by simp)).base (by simp)
theorem belowP1 {w w' : World} {o : Obj} (h : Below w.heap.size (w.alloc o).drew w') : Below w.heap.size w w' := ((Below.refl w.heap.size w).alloc (Nat.le_refl _) o).drew.trans h
theorem belowP2 {w w' : World} {o p : Obj} (h : Below w.heap.size ((w.alloc o).alloc p).drew w') : Below w.heap.size w w' := (((Below.refl w.heap.size w).alloc (Nat.le_refl _) o).alloc (by simp) p).drew.trans h
theorem belowU {a w v : World} {o : Obj} (h : Below a.heap.size a w) (h2 : Below a.heap.size (w.alloc o) v) : Below a.heap.size a v := (h.alloc h.size o).trans h2
theorem lit_two {w : World} {x y : Int} {t : TypeId} (hx : I64 x) (hy : I64 y) : Ints (w.alloc (.cells #[.int .i64 x, .int .i64 y] t)) (some ⟨w.heap.size, 0, none⟩) [x, y] := by
  refine litB rfl (List.all_eq_true.2 fun u hu => ?_)
  have hu2 : I64 u := by
    simp at hu
    rcases hu with rfl | rfl
    · exact hx
    · exact hy
  have u1 := hu2.1
  have u2 := hu2.2
  simp; omega
theorem litK2 {w w' : World} {x y : Int} {t t' : TypeId} (hx : I64 x) (hy : I64 y) (hg : ((w.alloc (.cells #[] t)).alloc (.cells #[.int .i64 x, .int .i64 y] t')).drew.grownBy w' (some w.heap.size)) : Ints w' (some ⟨w.heap.size + 1, 0, none⟩) [x, y] := by
  have h0 : Ints ((w.alloc (.cells #[] t)).alloc (.cells #[.int .i64 x, .int .i64 y] t')).drew (some ⟨w.heap.size + 1, 0, none⟩) [x, y] := by
    have := lit_two (w := w.alloc (.cells #[] t)) (t := t') hx hy
    rw [show (w.alloc (.cells #[] t)).heap.size = w.heap.size + 1 by simp] at this
    exact this.grow (Below.refl _ _).drew
  exact h0.kept hg (fun _ ad e => by injection e with e; subst e; simp)
theorem litK3 {w w' : World} {x y : Int} {t t' : TypeId} (hx : I64 x) (hy : I64 y) (hg : ((w.alloc (.cells #[.int .i64 x, .int .i64 y] t')).alloc (.cells #[] t)).drew.grownBy w' (some (w.heap.size + 1))) : Ints w' (some ⟨w.heap.size, 0, none⟩) [x, y] := by
  have h0 : Ints ((w.alloc (.cells #[.int .i64 x, .int .i64 y] t')).alloc (.cells #[] t)).drew (some ⟨w.heap.size, 0, none⟩) [x, y] := (lit_two hx hy).grow ((Below.refl _ _).alloc (Nat.le_refl _) _).drew
  exact h0.kept hg (fun _ ad e => by injection e with e; subst e; simp)
theorem twoS {a w' : World} {p q : Addr} {x y : Value} (hp : p.block < a.heap.size) (hq : q.block < a.heap.size) (S : Hid (a.cell? p = some x ∧ a.cell? q = some y)) (b : Below a.heap.size a w') : w'.cell? p = some x ∧ w'.cell? q = some y :=
  ⟨(b.cell hp).trans S.out.1, (b.cell hq).trans S.out.2⟩
theorem emp1 {w : World} : Own w.heap.size (w.alloc (.cells #[] 3)) (.slice (some ⟨w.heap.size, 0, none⟩) 0 0) [] := Own.empty rfl
theorem emp2 {w : World} {o : Obj} : Own w.heap.size ((w.alloc (.cells #[] 3)).alloc o) (.slice (some ⟨w.heap.size, 0, none⟩) 0 0) [] := (Own.empty rfl).grow ((Below.refl _ _).alloc (Nat.le_refl _) _)
theorem emp3 {w : World} {o : Obj} : Own w.heap.size ((w.alloc o).alloc (.cells #[] 3)) (.slice (some ⟨w.heap.size + 1, 0, none⟩) 0 0) [] := (Own.empty (by simp)).base (by simp)
theorem bP1 {a w w' : World} {o : Obj} (h0 : Below a.heap.size a w) (h : Below w.heap.size (w.alloc o) w') : Below a.heap.size a w' := below_then (h0) (((Below.refl w.heap.size w).alloc (Nat.le_refl _) o).trans h)
theorem bP2 {a w w' : World} {o p : Obj} (h0 : Below a.heap.size a w) (h : Below w.heap.size ((w.alloc o).alloc p) w') : Below a.heap.size a w' := below_then (h0) ((((Below.refl w.heap.size w).alloc (Nat.le_refl _) o).alloc (by simp) p).trans h)
theorem lit_one {w : World} {x : Int} {t : TypeId} (hx : I64 x) : Ints (w.alloc (.cells #[.int .i64 x] t)) (some ⟨w.heap.size, 0, none⟩) [x] := by
  refine litB rfl (List.all_eq_true.2 fun u hu => ?_)
  simp at hu
  subst hu
  have u1 := hx.1
  have u2 := hx.2
  simp; omega
theorem litS2 {w w' : World} {x : Int} {t t' : TypeId} (hx : I64 x) (hg : ((w.alloc (.cells #[] t)).alloc (.cells #[.int .i64 x] t')).grownBy w' (some w.heap.size)) : Ints w' (some ⟨w.heap.size + 1, 0, none⟩) [x] := by
  have h0 := lit_one (w := w.alloc (.cells #[] t)) (t := t') hx
  rw [show (w.alloc (.cells #[] t)).heap.size = w.heap.size + 1 by simp] at h0
  exact h0.kept hg (fun _ ad e => by injection e with e; subst e; simp)
theorem litS3 {w w' : World} {x : Int} {t t' : TypeId} (hx : I64 x) (hg : ((w.alloc (.cells #[.int .i64 x] t')).alloc (.cells #[] t)).grownBy w' (some (w.heap.size + 1))) : Ints w' (some ⟨w.heap.size, 0, none⟩) [x] :=
  ((lit_one hx).grow ((Below.refl _ _).alloc (Nat.le_refl _) _)).kept hg (fun _ ad e => by injection e with e; subst e; simp)
theorem w32_turn2 {x : List Int} (_h : 2 ≤ x.length) (hw : W32 x) : W32 (turn2 x) := fun y hy => by
  unfold turn2 at hy
  rcases List.mem_append.1 hy with hy | hy
  · exact hw y (List.mem_of_mem_drop hy)
  · simp at hy
    rcases hy with rfl | rfl
    · exact w32_el hw 0
    · exact w32_el hw 1
end Go.Proofs.Ytinjjaahljkhdaa
