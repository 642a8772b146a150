/- Rows of the call's own: append of one element; slices of numbers that the call makes. -/
import Derived.Test.YtinjjaahljkhdaaS
import Derived.Test.YtinjjaahljkhdaaRows
namespace Go.Proofs.Ytinjjaahljkhdaa
open Go.RowKit

/-- One element of one cell is appended to a row of the call's own. -/
theorem wpList_app1 {P : Program} {ops : Array Oper} {rest : List Oper} {o : Oper} {a : Act} {Q : Exit → Act → World → Prop} (W : World) (hgd : o.guard = none) (s x : Operand) (t : TypeId)
    (ho : o.op = .call { callee := .builtin .append, args := #[s, x], argTypes := #[t, t] })
    (base : Nat) (e : TypeId) (i : TypeInfo) (z : Value) (bytes : Nat) (ht : P.underlying t = some (.slice e)) (hi : P.info? e = some i) (hz : i.zero = some z)
    (hsize : i.size = 1) (hby : i.bytes = bytes) (hzs : z.cells.size = 1) (hbl : bytes ≤ 1000000)
    {v u : Value} {n : Nat} {xs : List Value} (hown : W.ownsRow base e 1 v n xs) (hs : a.eval s = v)
    (hx : a.eval x = .slice (some ⟨W.heap.size, 0, none⟩) 1 1) (h1 : u.oneCell' = true) (hn : n < 100000000) (hbase : base ≤ W.heap.size)
    (h : ∀ v' w', w'.ownsRow base e 1 v' (n + 1) (xs ++ [u]) → Below base W w' → wpList P ops Q rest (a.put o.dst v') w') :
    wpList P ops Q (o :: rest) a (W.alloc (.cells #[u] e)) := by
  refine wpList_append_own _ hgd s x t ho base e i z 1 bytes ht hi hz hsize hby hzs (by decide) v n xs hs (hown.alloc _) ⟨W.heap.size, 0, none⟩ 1 1 [u] hx rfl ?_ ?_ ?_ ?_ ?_ ?_
  · intro j q hj
    match j, hj with
    | 0, hj => simp at hj; subst hj; simp [Addr.add]
  · intro q hq; simp at hq; subst hq; exact h1
  · unfold maxLen; omega
  · have : (n + 1) * bytes ≤ 100000000 * 1000000 := Nat.mul_le_mul (by omega) hbl
    omega
  · simp; omega
  · intro v' w' ho' hg' _
    refine h v' w' ho' ?_
    have hb := (Below.refl base W).alloc hbase (.cells #[u] e)
    exact hb.grown hg' (by simp; omega) (fun k hk => (hown.lt k hk).1)

/-- The same within a region that draws its order. -/
theorem step_app1 {P : Program} {ops : Array Oper} {o : Oper} {a : Act} {K : Act → World → Prop} {Q : Exit → Act → World → Prop} {E : Prop} (W : World) (hgd : o.guard = none) (s x : Operand) (t : TypeId)
    (ho : o.op = .call { callee := .builtin .append, args := #[s, x], argTypes := #[t, t] })
    (base : Nat) (e : TypeId) (i : TypeInfo) (z : Value) (bytes : Nat) (ht : P.underlying t = some (.slice e)) (hi : P.info? e = some i) (hz : i.zero = some z)
    (hsize : i.size = 1) (hby : i.bytes = bytes) (hzs : z.cells.size = 1) (hbl : bytes ≤ 1000000)
    {v u : Value} {n : Nat} {xs : List Value} (hown : W.ownsRow base e 1 v n xs) (hs : a.eval s = v)
    (hx : a.eval x = .slice (some ⟨W.heap.size, 0, none⟩) 1 1) (h1 : u.oneCell' = true) (hn : n < 100000000) (hbase : base ≤ W.heap.size)
    (h : ∀ v' w', w'.ownsRow base e 1 v' (n + 1) (xs ++ [u]) → Below base W w' → K (a.put o.dst v') w') :
    if Region.wanted o (yielded ops a.tmps) = true then Oper.wp P o a (W.alloc (.cells #[u] e)) K Q else E := by
  have hw : Region.wanted o (yielded ops a.tmps) = true := by simp [Region.wanted, hgd]
  rw [if_pos hw]
  refine wp_append_own _ s x t ho base e i z 1 bytes ht hi hz hsize hby hzs (by decide) v n xs hs (hown.alloc _) ⟨W.heap.size, 0, none⟩ 1 1 [u] hx rfl ?_ ?_ ?_ ?_ ?_ ?_
  · intro j q hj
    match j, hj with
    | 0, hj => simp at hj; subst hj; simp [Addr.add]
  · intro q hq; simp at hq; subst hq; exact h1
  · unfold maxLen; omega
  · have : (n + 1) * bytes ≤ 100000000 * 1000000 := Nat.mul_le_mul (by omega) hbl
    omega
  · simp; omega
  · intro v' w' ho' hg' _
    refine h v' w' ho' ?_
    have hb := (Below.refl base W).alloc hbase (.cells #[u] e)
    exact hb.grown hg' (by simp; omega) (fun k hk => (hown.lt k hk).1)

/-- A row of the call's own stays its own while only new memory is made. -/
theorem own_grow {w w' : World} {base n size : Nat} {e : TypeId} {v : Value} {xs : List Value} (h : w.ownsRow base e size v n xs) (hb : Below w.heap.size w w') : w'.ownsRow base e size v n xs := by
  obtain ⟨h1, h2 | ⟨g, cap, cur, hv, hg, hh, r⟩⟩ := h
  · exact ⟨h1, .inl h2⟩
  · have hlt : g < w.heap.size := by
      rcases Nat.lt_or_ge g w.heap.size with h | h
      · exact h
      · rw [Array.getElem?_eq_none h] at hh; cases hh
    exact ⟨h1, .inr ⟨g, cap, cur, hv, hg, (hb.block g hlt).trans hh, r⟩⟩

theorem own_base {w : World} {base base' n size : Nat} {e : TypeId} {v : Value} {xs : List Value} (h : w.ownsRow base e size v n xs) (hb : base' ≤ base) : w.ownsRow base' e size v n xs := by
  obtain ⟨h1, h2 | ⟨g, cap, cur, hv, hg, r⟩⟩ := h
  · exact ⟨h1, .inl h2⟩
  · exact ⟨h1, .inr ⟨g, cap, cur, hv, by omega, r⟩⟩

theorem info_int : (Try.prog.info? 3).map (fun i => (i.zero, i.size, i.bytes)) = some (some (.int .i64 0), 1, 8) := by kernel_rfl

/-- v is a slice of numbers of the call's own that reads as the list l. -/
def Own (base : Nat) (w : World) (v : Value) (l : List Int) : Prop := w.ownsRow base 3 1 v l.length (l.map (Value.int .i64)) ∧ ∀ x ∈ l, I64 x
theorem Own.nil {base : Nat} {w : World} : Own base w (.slice none 0 0) [] := ⟨World.ownsRow_nil _ _ _ _, by simp⟩
theorem Own.form {base : Nat} {w : World} {v : Value} {l : List Int} (h : Own base w v l) : ∃ A c, v = .slice A l.length c ∧ l.length ≤ c ∧ Ints w A l := by
  obtain ⟨A, c, rfl, hc⟩ := own_form h.1
  exact ⟨A, c, rfl, hc, Row.of_own h.1, h.2⟩
theorem Own.grow {base : Nat} {w w' : World} {v : Value} {l : List Int} (h : Own base w v l) (hb : Below w.heap.size w w') : Own base w' v l := ⟨own_grow h.1 hb, h.2⟩
theorem Own.base {base base' : Nat} {w : World} {v : Value} {l : List Int} (h : Own base w v l) (hb : base' ≤ base) : Own base' w v l := ⟨own_base h.1 hb, h.2⟩
theorem step_app_int {ops : Array Oper} {o : Oper} {a : Act} {K : Act → World → Prop} {Q : Exit → Act → World → Prop} {E : Prop} (W : World) {W1 : World} (hgd : o.guard = none) (s x : Operand)
    (ho : o.op = .call { callee := .builtin .append, args := #[s, x], argTypes := #[25, 25] }) (base : Nat) {v : Value} {l : List Int} {y : Int} (hown : Own base W v l) (hW : W1 = W.alloc (.cells #[.int .i64 y] 3)) (hs : a.eval s = v)
    (hx : a.eval x = .slice (some ⟨W.heap.size, 0, none⟩) 1 1) (hn : l.length < 100000000) (hbase : base ≤ W.heap.size) (hy : I64 y)
    (h : ∀ v' w', Own base w' v' (l ++ [y]) → Below base W w' → K (a.put o.dst v') w') :
    if Region.wanted o (yielded ops a.tmps) = true then Oper.wp Try.prog o a W1 K Q else E := by
  subst hW
  obtain ⟨i0, hi, hz0, hz1, hz2⟩ := info_parts info_int
  refine step_app1 W hgd s x 25 ho base 3 i0 (.int .i64 0) 8 Try.underlying25 hi hz0 hz1 hz2 rfl (by decide) hown.1 hs hx rfl hn hbase fun v' w' h1 h2 => h v' w' ⟨?_, ?_⟩ h2
  · simpa using h1
  · intro q hq
    rcases List.mem_append.1 hq with hq | hq
    · exact hown.2 q hq
    · simp at hq; subst hq; exact hy
theorem app_int {ops : Array Oper} {rest : List Oper} {o : Oper} {a : Act} {Q : Exit → Act → World → Prop} (W : World) (hgd : o.guard = none) (s x : Operand)
    (ho : o.op = .call { callee := .builtin .append, args := #[s, x], argTypes := #[25, 25] }) (base : Nat) {v : Value} {l : List Int} {y : Int} (hown : Own base W v l) (hs : a.eval s = v)
    (hx : a.eval x = .slice (some ⟨W.heap.size, 0, none⟩) 1 1) (hn : l.length < 100000000) (hbase : base ≤ W.heap.size) (hy : I64 y)
    (h : ∀ v' w', Own base w' v' (l ++ [y]) → Below base W w' → wpList Try.prog ops Q rest (a.put o.dst v') w') :
    wpList Try.prog ops Q (o :: rest) a (W.alloc (.cells #[.int .i64 y] 3)) := by
  obtain ⟨i0, hi, hz0, hz1, hz2⟩ := info_parts info_int
  refine wpList_app1 W hgd s x 25 ho base 3 i0 (.int .i64 0) 8 Try.underlying25 hi hz0 hz1 hz2 rfl (by decide) hown.1 hs hx rfl hn hbase fun v' w' h1 h2 => h v' w' ⟨?_, ?_⟩ h2
  · simpa using h1
  · intro q hq
    rcases List.mem_append.1 hq with hq | hq
    · exact hown.2 q hq
    · simp at hq; subst hq; exact hy
/-- The box of a format that came by value, in all worlds that hold what was below. -/
theorem box4_S {w w' : World} {x0 x1 x2 x3 : Value} {t : TypeId} (h : Below (w.heap.size + 1) (w.alloc (.cells #[x0, x1, x2, x3] t)) w') :
    w'.cell? ⟨w.heap.size, 0, none⟩ = some x0 ∧ w'.cell? ⟨w.heap.size, 1, none⟩ = some x1 ∧ w'.cell? ⟨w.heap.size, 2, none⟩ = some x2 ∧ w'.cell? ⟨w.heap.size, 3, none⟩ = some x3 := by
  refine ⟨?_, ?_, ?_, ?_⟩ <;> exact (h.cell (Nat.lt_succ_self _)).trans (by simp [go_sem])
theorem below_box {w w' : World} {o : Obj} (h : Below (w.heap.size + 1) (w.alloc o) w') : Below w.heap.size w w' := ((Below.refl _ _).alloc (Nat.le_refl _) _).trans (h.mono (by omega))
end Go.Proofs.Ytinjjaahljkhdaa
