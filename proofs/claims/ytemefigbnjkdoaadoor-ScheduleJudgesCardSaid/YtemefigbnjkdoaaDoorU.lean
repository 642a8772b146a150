/- Rows of the call's own whose elements are structs of numbers: make, append, stores; slices of terms and of nodes. -/
import Derived.Test.YtemefigbnjkdoaaDoorG10
set_option linter.unusedVariables false
set_option linter.unusedSimpArgs false
namespace Go.Proofs.YtemefigbnjkdoaaDoor
open Go.RowKit

theorem flat_get {α : Type} {enc : α → List Int} {sz : Nat} (he : ∀ x, (enc x).length = sz) : ∀ (xs : List α) (k j : Nat) (x : α), xs[k]? = some x → j < sz → (xs.flatMap enc)[k * sz + j]? = (enc x)[j]?
  | [], k, j, x, h, _ => by simp at h
  | a :: l, 0, j, x, h, hj => by
    simp only [List.getElem?_cons_zero, Option.some.injEq] at h
    subst h
    rw [List.flatMap_cons, Nat.zero_mul, Nat.zero_add, List.getElem?_append_left (by rw [he]; exact hj)]
  | a :: l, k + 1, j, x, h, hj => by
    simp only [List.getElem?_cons_succ] at h
    rw [List.flatMap_cons, List.getElem?_append_right (by rw [he]; rw [Nat.add_mul]; omega), he, show (k + 1) * sz + j - sz = k * sz + j by rw [Nat.add_mul]; omega]
    exact flat_get he l k j x h hj
theorem flat_length {α : Type} {enc : α → List Int} {sz : Nat} (he : ∀ x, (enc x).length = sz) : ∀ (xs : List α), (xs.flatMap enc).length = xs.length * sz
  | [] => by simp
  | a :: l => by rw [List.flatMap_cons, List.length_append, he, flat_length he l, List.length_cons, Nat.add_mul]; omega
set_option maxRecDepth 100000 in
/-- append(v, s...) for rows of whatever element, in a plain region. -/
theorem app_row {ops : Array Oper} {rest : List Oper} {o : Oper} {a : Act} {Q : Exit → Act → World → Prop} (w : World) (hg : o.guard = none) (s x : Operand) (S E : TypeId) (z : Value) (size bytes : Nat)
    (ho : o.op = .call { callee := .builtin .append, args := #[s, x], argTypes := #[S, S] }) (hu : Tryd.prog.underlying S = some (.slice E)) (info : (Tryd.prog.info? E).map (fun i => (i.zero, i.size, i.bytes)) = some (some z, size, bytes)) (hzs : z.cells.size = size) (hpos : 0 < size) (hby : bytes ≤ 1000)
    (base : Nat) {v : Value} {n m c : Nat} {xs ys : List Value} {A : Option Addr} (hs : a.eval s = v) (hx : a.eval x = .slice A m c) (hown : w.ownsRow base E size v n xs) (hl : ys.length = m * size)
    (hy : ∀ j u, ys[j]? = some u → ∃ ad, A = some ad ∧ w.cell? (ad.add j) = some u) (h1 : ∀ u ∈ ys, u.oneCell' = true) (hn : n + m ≤ 100000000) (hbase : base ≤ w.heap.size)
    (h : ∀ v' w', w'.ownsRow base E size v' (n + m) (xs ++ ys) → w.grownBy w' v.ownBlock → (v'.ownBlock = v.ownBlock ∨ v'.ownBlock = some w.heap.size) → wpList Tryd.prog ops Q rest (a.put o.dst v') w') : wpList Tryd.prog ops Q (o :: rest) a w := by
  refine wpList_plain hg fun K hK => ?_
  obtain ⟨i0, hi, hz0, hz1, hz2⟩ := info_parts info
  have main : ∃ v' w', (Builtin.append_ #[S, S] o.type #[v, .slice A m c]).run Tryd.prog w = .ok v' w' ∧ w'.ownsRow base E size v' (n + m) (xs ++ ys) ∧ w.grownBy w' v.ownBlock ∧ (v'.ownBlock = v.ownBlock ∨ v'.ownBlock = some w.heap.size) := by
    cases A with
    | none =>
      have hm : ys = [] := by
        cases ys with
        | nil => rfl
        | cons y t => obtain ⟨ad, e, _⟩ := hy 0 y (by simp); cases e
      subst hm
      have hm0 : m = 0 := by
        rcases Nat.eq_zero_or_pos m with h | h
        · exact h
        · have : 0 < m * size := Nat.mul_pos h hpos
          simp at hl; omega
      subst hm0
      refine ⟨v, w, ?_, by simpa using hown, ⟨rfl, rfl, rfl, Nat.le_refl _, fun _ _ _ => rfl⟩, .inl rfl⟩
      rcases hown.2 with ⟨rfl, _⟩ | ⟨g, cap, cur, rfl, _, _, hnc, _⟩
      · simp [Builtin.append_, run_underlying hu, sizeOf, typeInfo, hi, Builtin.lenOf, Builtin.firstCells]
      · simp [Builtin.append_, run_underlying hu, sizeOf, typeInfo, hi, Builtin.lenOf, Builtin.firstCells, hnc, storeCells]
    | some ad =>
      have hnews : ∀ j u, ys[j]? = some u → w.cell? (ad.add j) = some u := fun j u hu => by
        obtain ⟨ad', e, h⟩ := hy j u hu
        injection e with e
        rw [e]; exact h
      obtain ⟨v', w', h1, h2, h3, _, h5⟩ := run_append_own_at (P := Tryd.prog) w base S o.type E i0 z size bytes hu hi hz0 hz1 hz2 hzs hpos v n _ hown ad m c ys hl hnews h1
        (by unfold maxLen; omega) (by have : (n + m) * bytes ≤ 100000000 * 1000 := Nat.mul_le_mul hn hby; omega) hbase
      exact ⟨v', w', h1, h2, h3, h5⟩
  obtain ⟨v', w', hrun, h1, h2, h3⟩ := main
  unfold Oper.wp execOp
  simp only [ho, resolve, invoke, builtin, Sem.run_bind, Sem.run_pure, Result.andThen_ok, List.map_toArray, List.map_cons, List.map_nil, hs, hx, hrun]
  exact hK _ _ (h v' w' h1 h2 h3)
theorem zrow_cells (z : Value) (n sz : Nat) (hz : z.cells = Array.replicate sz (.int .i64 0)) (hp : 0 < sz) : (madeCells z.cells (n * sz)).toList = (List.replicate (n * sz) (0 : Int)).map (Value.int .i64) := by
  apply List.ext_getElem?
  intro k
  simp only [madeCells, hz, Array.toList_map, Array.toList_range, List.getElem?_map, List.getElem?_replicate, Array.size_replicate]
  rcases Nat.lt_or_ge k (n * sz) with h | h
  · rw [List.getElem?_range h, if_pos h]
    have := Nat.mod_lt k hp
    simp [this]
  · rw [List.getElem?_eq_none (by simpa using h), if_neg (by omega)]; rfl
/-- make([]E, n) for structs of numbers. -/
theorem mk_row {ops : Array Oper} {rest : List Oper} {o : Oper} {a : Act} {Q : Exit → Act → World → Prop} {w : World} (hg : o.guard = none) (s c : Operand) (S E : TypeId) (z : Value) (size bytes : Nat) (hop : o.op = Op.makeSlice S s c)
    (hu : Tryd.prog.underlying S = some (.slice E)) (info : (Tryd.prog.info? E).map (fun i => (i.zero, i.size, i.bytes)) = some (some z, size, bytes)) (hz : z.cells = Array.replicate size (.int .i64 0)) (hpos : 0 < size) (hby : bytes ≤ 1000)
    (base n : Nat) {N : Int} (hs : a.eval s = .int .i64 N) (hc : a.eval c = .int .i64 N) (hN : N = (n : Int)) (hn : n ≤ 100000000) (hb : base ≤ w.heap.size)
    (h : ∀ w', w'.ownsRow base E size (.slice (some ⟨w.heap.size, 0, none⟩) n n) n ((List.replicate (n * size) (0 : Int)).map (Value.int .i64)) → Below w.heap.size w w' → wpList Tryd.prog ops Q rest (a.put o.dst (.slice (some ⟨w.heap.size, 0, none⟩) n n)) w') :
    wpList Tryd.prog ops Q (o :: rest) a w := by
  subst hN
  obtain ⟨i0, hi, hz0, hz1, hz2⟩ := info_parts info
  refine wpList_make_full w hg s c S hop base E i0 z size hu hi hz0 hz1 .i64 .i64 n n n hs hc rfl rfl (by rw [hz2]; have : bytes * n ≤ 1000 * 100000000 := Nat.mul_le_mul hby hn; omega) (by unfold maxLen; omega) hb fun w' h1 h2 => h w' ?_ ?_
  · rw [← zrow_cells z n size hz hpos]; exact h1
  · exact (Below.refl _ _).grown h2 (Nat.le_refl _) (by intro k hk; cases hk)
/-- The block g holds the cells vs, and no others. -/
def Box (w : World) (g : Nat) (vs : List Value) : Prop := g < w.heap.size ∧ (∀ k, w.cell? ⟨g, k, none⟩ = vs[k]?) ∧ ∀ k, w.frozen? ⟨g, k, none⟩ = false
theorem Box.new {w : World} {vs : Array Value} {t : TypeId} {g : Nat} (h : g = w.heap.size) : Box (w.alloc (.cells vs t)) g vs.toList := by
  subst h
  refine ⟨by simp, fun k => ?_, fun k => ?_⟩
  · rw [cell_of_row _ w.heap.size k vs t (0, 0) (heap_alloc_new w _)]
    simp
  · exact frozen_of_row _ w.heap.size k vs t (heap_alloc_new w _)
theorem Box.block {w w' : World} {g : Nat} {vs : List Value} (h : Box w g vs) (hb : w'.heap[g]? = w.heap[g]?) (hs : w.heap.size ≤ w'.heap.size) : Box w' g vs :=
  ⟨Nat.lt_of_lt_of_le h.1 hs, fun k => (World.cell?_of_block (a := ⟨g, k, none⟩) hb).trans (h.2.1 k), fun k => (World.frozen?_of_block (a := ⟨g, k, none⟩) hb).trans (h.2.2 k)⟩
theorem Box.keep {w w' : World} {g : Nat} {vs : List Value} (h : Box w g vs) (hb : Below w.heap.size w w') : Box w' g vs := h.block (hb.block g h.1) hb.size
theorem Box.grown {w w' : World} {g : Nat} {vs : List Value} {r : Option Nat} (h : Box w g vs) (hb : w.grownBy w' r) (hn : some g ≠ r) : Box w' g vs := h.block (hb.block g h.1 hn) hb.size
theorem Box.alloc {w : World} {g : Nat} {vs : List Value} (h : Box w g vs) (o : Obj) : Box (w.alloc o) g vs := h.keep ((Below.refl _ _).alloc (Nat.le_refl _) o)
theorem Box.drew {w : World} {g : Nat} {vs : List Value} (h : Box w g vs) : Box w.drew g vs := h.keep ((Below.refl _ _).drew)
theorem Box.past {w : World} {g b k : Nat} {vs : List Value} {u : Value} (h : Box w g vs) (hn : b ≠ g) : Box (w.setCell ⟨b, k, none⟩ u) g vs :=
  h.block (Below.heap_setCell w _ u g (fun e => hn e.symm)) (by simp [World.setCell])
theorem Box.set {w : World} {g k : Nat} {vs : List Value} {u : Value} (h : Box w g vs) (hk : k < vs.length := by simp) : Box (w.setCell ⟨g, k, none⟩ u) g (vs.set k u) := by
  obtain ⟨h1, h2, h3⟩ := h
  refine ⟨by simpa [World.setCell] using h1, fun j => ?_, fun j => by rw [World.frozen?_setCell]; exact h3 j⟩
  rw [List.getElem?_set]
  by_cases e : k = j
  · subst e
    rw [if_pos rfl, if_pos hk]
    exact World.cell?_setCell_same _ _ _ ((h2 k).trans (List.getElem?_eq_getElem hk))
  · rw [if_neg e, World.cell?_setCell_other _ _ _ _ (by intro hc; injection hc with _ hc; exact e hc)]
    exact h2 j
theorem Box.mem {w : World} {g k : Nat} {vs : List Value} {v : Value} (h : Box w g vs) (hc : w.cell? ⟨g, k, none⟩ = some v) : v ∈ vs := by
  rw [h.2.1 k] at hc
  exact List.mem_of_getElem? hc
theorem Box.mem_at {w : World} {g : Nat} {vs : List Value} {v : Value} {a : Addr} (h : Box w g vs) (hc : w.cell? a = some v) (hb : a.block = g) : v ∈ vs := by
  obtain ⟨b, o, s⟩ := a
  simp only at hb
  subst hb
  cases s with
  | none => exact h.mem hc
  | some s =>
    unfold World.cell? at hc
    simp only [Option.isSome_some, if_true] at hc
    split at hc <;> cases hc
theorem Box.c2 {w : World} {g : Nat} {a b : Value} (h : Box w g [a, b]) : w.cell? ⟨g, 0, none⟩ = some a ∧ w.cell? ⟨g, 1, none⟩ = some b := ⟨h.2.1 0, h.2.1 1⟩
theorem Box.c4 {w : World} {g : Nat} {a b c d : Value} (h : Box w g [a, b, c, d]) : w.cell? ⟨g, 0, none⟩ = some a ∧ w.cell? ⟨g, 1, none⟩ = some b ∧ w.cell? ⟨g, 2, none⟩ = some c ∧ w.cell? ⟨g, 3, none⟩ = some d := ⟨h.2.1 0, h.2.1 1, h.2.1 2, h.2.1 3⟩
theorem Box.c12 {w : World} {g : Nat} {a b c d a' b' c' d' i j k l : Value} (h : Box w g [a, b, c, d, a', b', c', d', i, j, k, l]) :
    (w.cell? ⟨g, 0, none⟩ = some a ∧ w.cell? ⟨g, 1, none⟩ = some b ∧ w.cell? ⟨g, 2, none⟩ = some c ∧ w.cell? ⟨g, 3, none⟩ = some d) ∧ (w.cell? ⟨g, 4, none⟩ = some a' ∧ w.cell? ⟨g, 5, none⟩ = some b' ∧ w.cell? ⟨g, 6, none⟩ = some c' ∧ w.cell? ⟨g, 7, none⟩ = some d') ∧
    w.cell? ⟨g, 8, none⟩ = some i ∧ w.cell? ⟨g, 9, none⟩ = some j ∧ w.cell? ⟨g, 10, none⟩ = some k ∧ w.cell? ⟨g, 11, none⟩ = some l :=
  ⟨⟨h.2.1 0, h.2.1 1, h.2.1 2, h.2.1 3⟩, ⟨h.2.1 4, h.2.1 5, h.2.1 6, h.2.1 7⟩, h.2.1 8, h.2.1 9, h.2.1 10, h.2.1 11⟩
/-- Twelve stores into a block. -/
def fill12 (w : World) (g : Nat) (a b c d a' b' c' d' i j k l : Value) : World :=
  (((((((((((w.setCell ⟨g, 0, none⟩ a).setCell ⟨g, 1, none⟩ b).setCell ⟨g, 2, none⟩ c).setCell ⟨g, 3, none⟩ d).setCell ⟨g, 4, none⟩ a').setCell ⟨g, 5, none⟩ b').setCell ⟨g, 6, none⟩ c').setCell ⟨g, 7, none⟩ d').setCell ⟨g, 8, none⟩ i).setCell ⟨g, 9, none⟩ j).setCell ⟨g, 10, none⟩ k).setCell ⟨g, 11, none⟩ l
theorem fill12_grown (w : World) (g : Nat) (a b c d a' b' c' d' i j k l : Value) : w.grownBy (fill12 w g a b c d a' b' c' d' i j k l) (some g) :=
  grown_set (grown_set (grown_set (grown_set (grown_set (grown_set (grown_set (grown_set (grown_set (grown_set (grown_set (grown_set (grown_refl w (some g)))))))))))))
theorem Box.fill12 {w : World} {g : Nat} {z0 z1 z2 z3 z4 z5 z6 z7 z8 z9 z10 z11 : Value} (h : Box w g [z0, z1, z2, z3, z4, z5, z6, z7, z8, z9, z10, z11]) (a b c d a' b' c' d' i j k l : Value) : Box (fill12 w g a b c d a' b' c' d' i j k l) g [a, b, c, d, a', b', c', d', i, j, k, l] :=
  ((((((((((((h.set (k := 0) (u := a)).set (k := 1) (u := b)).set (k := 2) (u := c)).set (k := 3) (u := d)).set (k := 4) (u := a')).set (k := 5) (u := b')).set (k := 6) (u := c')).set (k := 7) (u := d')).set (k := 8) (u := i)).set (k := 9) (u := j)).set (k := 10) (u := k)).set (k := 11) (u := l))
end Go.Proofs.YtemefigbnjkdoaaDoor
