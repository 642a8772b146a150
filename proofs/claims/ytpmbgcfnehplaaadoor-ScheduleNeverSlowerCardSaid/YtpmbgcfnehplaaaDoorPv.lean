/- Several texts in one: U U3 U4 Ql U5. -/
import Derived.Test.YtpmbgcfnehplaaaDoorPt
import Derived.Deep.MidRow
import Derived.Test.YtpmbgcfnehplaaaDoorPr
section
/- Rows of the call's own whose elements are structs of numbers: make, append, stores; slices of terms and of nodes. -/
set_option linter.unusedVariables false
set_option linter.unusedSimpArgs false
namespace Go.Proofs.YtpmbgcfnehplaaaDoor
open Go.RowKit

theorem flat_get {α : Type} {enc : α → List Int} {sz : Nat} (he : ∀ x, (enc x).length = sz) : ∀ (xs : List α) (k j : Nat) (x : α), xs[k]? = some x → j < sz → (xs.flatMap enc)[k * sz + j]? = (enc x)[j]?
  | [], k, j, x, h, _ => by simp at h
  | a :: l, 0, j, x, h, hj => by
    simp only [List.getElem?_cons_zero, Option.some.injEq] at h
    subst h
    rw [List.flatMap_cons, Nat.zero_mul, Nat.zero_add, List.getElem?_append_left (by rw [he]; exact hj)]
  | a :: l, k + 1, j, x, h, hj => by
    simp only [List.getElem?_cons_succ] at h
    rw [List.flatMap_cons, List.getElem?_append_right (by rw [he]; rw [Nat.add_mul]; omega), he, show (k + 1) * sz + j - sz = k * sz + j by rw [Nat.add_mul]; omega]
    exact flat_get he l k j x h hj
theorem flat_length {α : Type} {enc : α → List Int} {sz : Nat} (he : ∀ x, (enc x).length = sz) : ∀ (xs : List α), (xs.flatMap enc).length = xs.length * sz
  | [] => by simp
  | a :: l => by rw [List.flatMap_cons, List.length_append, he, flat_length he l, List.length_cons, Nat.add_mul]; omega
set_option maxRecDepth 100000 in
/-- append(v, s...) for rows of whatever element, in a plain region. -/
theorem app_row {ops : Array Oper} {rest : List Oper} {o : Oper} {a : Act} {Q : Exit → Act → World → Prop} (w : World) (hg : o.guard = none) (s x : Operand) (S E : TypeId) (z : Value) (size bytes : Nat)
    (ho : o.op = .call { callee := .builtin .append, args := #[s, x], argTypes := #[S, S] }) (hu : Tryd.prog.underlying S = some (.slice E)) (info : (Tryd.prog.info? E).map (fun i => (i.zero, i.size, i.bytes)) = some (some z, size, bytes)) (hzs : z.cells.size = size) (hpos : 0 < size) (hby : bytes ≤ 1000)
    (base : Nat) {v : Value} {n m c : Nat} {xs ys : List Value} {A : Option Addr} (hs : a.eval s = v) (hx : a.eval x = .slice A m c) (hown : w.ownsRow base E size v n xs) (hl : ys.length = m * size)
    (hy : ∀ j u, ys[j]? = some u → ∃ ad, A = some ad ∧ w.cell? (ad.add j) = some u) (h1 : ∀ u ∈ ys, u.oneCell' = true) (hn : n + m ≤ 100000000) (hbase : base ≤ w.heap.size)
    (h : ∀ v' w', w'.ownsRow base E size v' (n + m) (xs ++ ys) → w.grownBy w' v.ownBlock → (v'.ownBlock = v.ownBlock ∨ v'.ownBlock = some w.heap.size) → wpList Tryd.prog ops Q rest (a.put o.dst v') w') : wpList Tryd.prog ops Q (o :: rest) a w := by
  refine wpList_plain hg fun K hK => ?_
  obtain ⟨i0, hi, hz0, hz1, hz2⟩ := info_parts info
  have main : ∃ v' w', (Builtin.append_ #[S, S] o.type #[v, .slice A m c]).run Tryd.prog w = .ok v' w' ∧ w'.ownsRow base E size v' (n + m) (xs ++ ys) ∧ w.grownBy w' v.ownBlock ∧ (v'.ownBlock = v.ownBlock ∨ v'.ownBlock = some w.heap.size) := by
    cases A with
    | none =>
      have hm : ys = [] := by
        cases ys with
        | nil => rfl
        | cons y t => obtain ⟨ad, e, _⟩ := hy 0 y (by simp); cases e
      subst hm
      have hm0 : m = 0 := by
        rcases Nat.eq_zero_or_pos m with h | h
        · exact h
        · have : 0 < m * size := Nat.mul_pos h hpos
          simp at hl; omega
      subst hm0
      refine ⟨v, w, ?_, by simpa using hown, ⟨rfl, rfl, rfl, Nat.le_refl _, fun _ _ _ => rfl⟩, .inl rfl⟩
      rcases hown.2 with ⟨rfl, _⟩ | ⟨g, cap, cur, rfl, _, _, hnc, _⟩
      · simp [Builtin.append_, run_underlying hu, sizeOf, typeInfo, hi, Builtin.lenOf, Builtin.firstCells]
      · simp [Builtin.append_, run_underlying hu, sizeOf, typeInfo, hi, Builtin.lenOf, Builtin.firstCells, hnc, storeCells]
    | some ad =>
      have hnews : ∀ j u, ys[j]? = some u → w.cell? (ad.add j) = some u := fun j u hu => by
        obtain ⟨ad', e, h⟩ := hy j u hu
        injection e with e
        rw [e]; exact h
      obtain ⟨v', w', h1, h2, h3, _, h5⟩ := run_append_own_at (P := Tryd.prog) w base S o.type E i0 z size bytes hu hi hz0 hz1 hz2 hzs hpos v n _ hown ad m c ys hl hnews h1
        (by unfold maxLen; omega) (by have : (n + m) * bytes ≤ 100000000 * 1000 := Nat.mul_le_mul hn hby; omega) hbase
      exact ⟨v', w', h1, h2, h3, h5⟩
  obtain ⟨v', w', hrun, h1, h2, h3⟩ := main
  unfold Oper.wp execOp
  simp only [ho, resolve, invoke, builtin, Sem.run_bind, Sem.run_pure, Result.andThen_ok, List.map_toArray, List.map_cons, List.map_nil, hs, hx, hrun]
  exact hK _ _ (h v' w' h1 h2 h3)
theorem zrow_cells (z : Value) (n sz : Nat) (hz : z.cells = Array.replicate sz (.int .i64 0)) (hp : 0 < sz) : (madeCells z.cells (n * sz)).toList = (List.replicate (n * sz) (0 : Int)).map (Value.int .i64) := by
  apply List.ext_getElem?
  intro k
  simp only [madeCells, hz, Array.toList_map, Array.toList_range, List.getElem?_map, List.getElem?_replicate, Array.size_replicate]
  rcases Nat.lt_or_ge k (n * sz) with h | h
  · rw [List.getElem?_range h, if_pos h]
    have := Nat.mod_lt k hp
    simp [this]
  · rw [List.getElem?_eq_none (by simpa using h), if_neg (by omega)]; rfl
/-- make([]E, n) for structs of numbers. -/
theorem mk_row {ops : Array Oper} {rest : List Oper} {o : Oper} {a : Act} {Q : Exit → Act → World → Prop} {w : World} (hg : o.guard = none) (s c : Operand) (S E : TypeId) (z : Value) (size bytes : Nat) (hop : o.op = Op.makeSlice S s c)
    (hu : Tryd.prog.underlying S = some (.slice E)) (info : (Tryd.prog.info? E).map (fun i => (i.zero, i.size, i.bytes)) = some (some z, size, bytes)) (hz : z.cells = Array.replicate size (.int .i64 0)) (hpos : 0 < size) (hby : bytes ≤ 1000)
    (base n : Nat) {N : Int} (hs : a.eval s = .int .i64 N) (hc : a.eval c = .int .i64 N) (hN : N = (n : Int)) (hn : n ≤ 100000000) (hb : base ≤ w.heap.size)
    (h : ∀ w', w'.ownsRow base E size (.slice (some ⟨w.heap.size, 0, none⟩) n n) n ((List.replicate (n * size) (0 : Int)).map (Value.int .i64)) → Below w.heap.size w w' → wpList Tryd.prog ops Q rest (a.put o.dst (.slice (some ⟨w.heap.size, 0, none⟩) n n)) w') :
    wpList Tryd.prog ops Q (o :: rest) a w := by
  subst hN
  obtain ⟨i0, hi, hz0, hz1, hz2⟩ := info_parts info
  refine wpList_make_full w hg s c S hop base E i0 z size hu hi hz0 hz1 .i64 .i64 n n n hs hc rfl rfl (by rw [hz2]; have : bytes * n ≤ 1000 * 100000000 := Nat.mul_le_mul hby hn; omega) (by unfold maxLen; omega) hb fun w' h1 h2 => h w' ?_ ?_
  · rw [← zrow_cells z n size hz hpos]; exact h1
  · exact (Below.refl _ _).grown h2 (Nat.le_refl _) (by intro k hk; cases hk)
/-- The block g holds the cells vs, and no others. -/
def Box (w : World) (g : Nat) (vs : List Value) : Prop := g < w.heap.size ∧ (∀ k, w.cell? ⟨g, k, none⟩ = vs[k]?) ∧ ∀ k, w.frozen? ⟨g, k, none⟩ = false
theorem Box.new {w : World} {vs : Array Value} {t : TypeId} {g : Nat} (h : g = w.heap.size) : Box (w.alloc (.cells vs t)) g vs.toList := by
  subst h
  refine ⟨by simp, fun k => ?_, fun k => ?_⟩
  · rw [cell_of_row _ w.heap.size k vs t (0, 0) (heap_alloc_new w _)]
    simp
  · exact frozen_of_row _ w.heap.size k vs t (heap_alloc_new w _)
theorem Box.block {w w' : World} {g : Nat} {vs : List Value} (h : Box w g vs) (hb : w'.heap[g]? = w.heap[g]?) (hs : w.heap.size ≤ w'.heap.size) : Box w' g vs :=
  ⟨Nat.lt_of_lt_of_le h.1 hs, fun k => (World.cell?_of_block (a := ⟨g, k, none⟩) hb).trans (h.2.1 k), fun k => (World.frozen?_of_block (a := ⟨g, k, none⟩) hb).trans (h.2.2 k)⟩
theorem Box.keep {w w' : World} {g : Nat} {vs : List Value} (h : Box w g vs) (hb : Below w.heap.size w w') : Box w' g vs := h.block (hb.block g h.1) hb.size
theorem Box.grown {w w' : World} {g : Nat} {vs : List Value} {r : Option Nat} (h : Box w g vs) (hb : w.grownBy w' r) (hn : some g ≠ r) : Box w' g vs := h.block (hb.block g h.1 hn) hb.size
theorem Box.alloc {w : World} {g : Nat} {vs : List Value} (h : Box w g vs) (o : Obj) : Box (w.alloc o) g vs := h.keep ((Below.refl _ _).alloc (Nat.le_refl _) o)
theorem Box.drew {w : World} {g : Nat} {vs : List Value} (h : Box w g vs) : Box w.drew g vs := h.keep ((Below.refl _ _).drew)
theorem Box.past {w : World} {g b k : Nat} {vs : List Value} {u : Value} (h : Box w g vs) (hn : b ≠ g) : Box (w.setCell ⟨b, k, none⟩ u) g vs :=
  h.block (Below.heap_setCell w _ u g (fun e => hn e.symm)) (by simp [World.setCell])
theorem Box.set {w : World} {g k : Nat} {vs : List Value} {u : Value} (h : Box w g vs) (hk : k < vs.length := by simp) : Box (w.setCell ⟨g, k, none⟩ u) g (vs.set k u) := by
  obtain ⟨h1, h2, h3⟩ := h
  refine ⟨by simpa [World.setCell] using h1, fun j => ?_, fun j => by rw [World.frozen?_setCell]; exact h3 j⟩
  rw [List.getElem?_set]
  by_cases e : k = j
  · subst e
    rw [if_pos rfl, if_pos hk]
    exact World.cell?_setCell_same _ _ _ ((h2 k).trans (List.getElem?_eq_getElem hk))
  · rw [if_neg e, World.cell?_setCell_other _ _ _ _ (by intro hc; injection hc with _ hc; exact e hc)]
    exact h2 j
theorem Box.mem {w : World} {g k : Nat} {vs : List Value} {v : Value} (h : Box w g vs) (hc : w.cell? ⟨g, k, none⟩ = some v) : v ∈ vs := by
  rw [h.2.1 k] at hc
  exact List.mem_of_getElem? hc
theorem Box.mem_at {w : World} {g : Nat} {vs : List Value} {v : Value} {a : Addr} (h : Box w g vs) (hc : w.cell? a = some v) (hb : a.block = g) : v ∈ vs := by
  obtain ⟨b, o, s⟩ := a
  simp only at hb
  subst hb
  cases s with
  | none => exact h.mem hc
  | some s =>
    unfold World.cell? at hc
    simp only [Option.isSome_some, if_true] at hc
    split at hc <;> cases hc
theorem Box.c2 {w : World} {g : Nat} {a b : Value} (h : Box w g [a, b]) : w.cell? ⟨g, 0, none⟩ = some a ∧ w.cell? ⟨g, 1, none⟩ = some b := ⟨h.2.1 0, h.2.1 1⟩
theorem Box.c4 {w : World} {g : Nat} {a b c d : Value} (h : Box w g [a, b, c, d]) : w.cell? ⟨g, 0, none⟩ = some a ∧ w.cell? ⟨g, 1, none⟩ = some b ∧ w.cell? ⟨g, 2, none⟩ = some c ∧ w.cell? ⟨g, 3, none⟩ = some d := ⟨h.2.1 0, h.2.1 1, h.2.1 2, h.2.1 3⟩
theorem Box.c12 {w : World} {g : Nat} {a b c d a' b' c' d' i j k l : Value} (h : Box w g [a, b, c, d, a', b', c', d', i, j, k, l]) :
    (w.cell? ⟨g, 0, none⟩ = some a ∧ w.cell? ⟨g, 1, none⟩ = some b ∧ w.cell? ⟨g, 2, none⟩ = some c ∧ w.cell? ⟨g, 3, none⟩ = some d) ∧ (w.cell? ⟨g, 4, none⟩ = some a' ∧ w.cell? ⟨g, 5, none⟩ = some b' ∧ w.cell? ⟨g, 6, none⟩ = some c' ∧ w.cell? ⟨g, 7, none⟩ = some d') ∧
    w.cell? ⟨g, 8, none⟩ = some i ∧ w.cell? ⟨g, 9, none⟩ = some j ∧ w.cell? ⟨g, 10, none⟩ = some k ∧ w.cell? ⟨g, 11, none⟩ = some l :=
  ⟨⟨h.2.1 0, h.2.1 1, h.2.1 2, h.2.1 3⟩, ⟨h.2.1 4, h.2.1 5, h.2.1 6, h.2.1 7⟩, h.2.1 8, h.2.1 9, h.2.1 10, h.2.1 11⟩
/-- Twelve stores into a block. -/
def fill12 (w : World) (g : Nat) (a b c d a' b' c' d' i j k l : Value) : World :=
  (((((((((((w.setCell ⟨g, 0, none⟩ a).setCell ⟨g, 1, none⟩ b).setCell ⟨g, 2, none⟩ c).setCell ⟨g, 3, none⟩ d).setCell ⟨g, 4, none⟩ a').setCell ⟨g, 5, none⟩ b').setCell ⟨g, 6, none⟩ c').setCell ⟨g, 7, none⟩ d').setCell ⟨g, 8, none⟩ i).setCell ⟨g, 9, none⟩ j).setCell ⟨g, 10, none⟩ k).setCell ⟨g, 11, none⟩ l
theorem fill12_grown (w : World) (g : Nat) (a b c d a' b' c' d' i j k l : Value) : w.grownBy (fill12 w g a b c d a' b' c' d' i j k l) (some g) :=
  grown_set (grown_set (grown_set (grown_set (grown_set (grown_set (grown_set (grown_set (grown_set (grown_set (grown_set (grown_set (grown_refl w (some g)))))))))))))
theorem Box.fill12 {w : World} {g : Nat} {z0 z1 z2 z3 z4 z5 z6 z7 z8 z9 z10 z11 : Value} (h : Box w g [z0, z1, z2, z3, z4, z5, z6, z7, z8, z9, z10, z11]) (a b c d a' b' c' d' i j k l : Value) : Box (fill12 w g a b c d a' b' c' d' i j k l) g [a, b, c, d, a', b', c', d', i, j, k, l] :=
  ((((((((((((h.set (k := 0) (u := a)).set (k := 1) (u := b)).set (k := 2) (u := c)).set (k := 3) (u := d)).set (k := 4) (u := a')).set (k := 5) (u := b')).set (k := 6) (u := c')).set (k := 7) (u := d')).set (k := 8) (u := i)).set (k := 9) (u := j)).set (k := 10) (u := k)).set (k := 11) (u := l))
end Go.Proofs.YtpmbgcfnehplaaaDoor
end
section
/- Loads and stores of parts of a block that holds exactly these cells, by the kit's laws on ranges. -/
set_option linter.unusedVariables false
set_option linter.unusedSimpArgs false
namespace Go.Proofs.YtpmbgcfnehplaaaDoor
open Go.RowKit

theorem Box.range {w : World} {g o : Nat} {vs cs : List Value} (h : Box w g vs) (e : ∀ j v, cs[j]? = some v → vs[o + j]? = some v) : w.rangeAt g o cs := fun j v hv => (h.2.1 (o + j)).trans (e j v hv)
theorem Box.there {w : World} {g o n : Nat} {vs : List Value} (h : Box w g vs) (hn : o + n ≤ vs.length) : w.there g o n := fun j hj => ⟨by rw [h.2.1, List.getElem?_eq_getElem (by omega)]; rfl, h.2.2 _⟩
theorem Box.sets {g : Nat} : ∀ (l : List Value) (k : Nat) (w : World) (vs : List Value), Box w g vs → k + l.length ≤ vs.length → Box (w.setCells g k l) g (vs.take k ++ l ++ vs.drop (k + l.length))
  | [], k, w, vs, h, _ => by
    show Box w g _
    rw [List.append_nil, List.length_nil, Nat.add_zero, List.take_append_drop]; exact h
  | v :: l, k, w, vs, h, hk => by
    have hk' : k < vs.length := by simp at hk; omega
    have h1 := h.set (k := k) (u := v) hk'
    have h2 := Box.sets l (k + 1) _ _ h1 (by simp at hk ⊢; omega)
    have e : (vs.set k v).take (k + 1) ++ l ++ (vs.set k v).drop (k + 1 + l.length) = vs.take k ++ (v :: l) ++ vs.drop (k + (v :: l).length) := by
      rw [List.drop_set_of_lt (by omega), List.length_cons, show k + (l.length + 1) = k + 1 + l.length by omega, List.take_add_one, List.getElem?_set_self hk', List.take_set_of_le (Nat.le_refl _)]
      simp
    rw [← e]; exact h2
theorem sets_grown {a : World} {g : Nat} : ∀ (l : List Value) (k : Nat) (w : World), a.grownBy w (some g) → a.grownBy (w.setCells g k l) (some g)
  | [], _, _, h => h
  | v :: l, k, w, h => sets_grown l (k + 1) _ (grown_set h)
/-- The load of a part of a box. -/
theorem wp_ld {ops : Array Oper} {rest : List Oper} {o : Oper} {a : Act} {Q : Exit → Act → World → Prop} {w : World} (hgd : o.guard = none) (ty : TypeId) (x : Operand) (ho : o.op = .load ty x) (g k : Nat) (hx : a.eval x = .pointer (some ⟨g, k, none⟩)) {vs : List Value} (hb : Box w g vs) (cs : List Value)
    (e : ∀ j v, cs[j]? = some v → vs[k + j]? = some v) (d : TypeDesc) (hu : Tryd.prog.underlying ty = some d) (hd : d.isRow = true) (hi : (Tryd.prog.info? ty).map (·.size) = some cs.length)
    (h : wpList Tryd.prog ops Q rest (a.put o.dst (.agg cs.toArray)) w) : wpList Tryd.prog ops Q (o :: rest) a w :=
  wpList_load_mid hgd ty x ho g k hx cs d (hb.range e) hu hd hi h
/-- The store of a struct into a box. -/
theorem wp_st {ops : Array Oper} {rest : List Oper} {o : Oper} {a : Act} {Q : Exit → Act → World → Prop} {w : World} (hgd : o.guard = none) (ty : TypeId) (x y : Operand) (ho : o.op = .store ty x y) (g k : Nat) (cs : List Value) (hx : a.eval x = .pointer (some ⟨g, k, none⟩)) (hy : a.eval y = .agg cs.toArray)
    (hi : (Tryd.prog.info? ty).map (·.size) = some cs.length) (h1 : cs.all (·.oneCell') = true) {vs vs' : List Value} (hb : Box w g vs) (hk : k + cs.length ≤ vs.length) (e : vs.take k ++ cs ++ vs.drop (k + cs.length) = vs')
    (h : ∀ W1, Box W1 g vs' → w.grownBy W1 (some g) → wpList Tryd.prog ops Q rest (a.put o.dst undef) W1) : wpList Tryd.prog ops Q (o :: rest) a w := by
  refine wpList_store_mid hgd ty x y ho g k cs.toArray hx hy (by simpa using hb.there hk) (by simpa using hi) (all_oneCell_toArray (fun v hv => List.all_eq_true.1 h1 v hv)) ?_
  have e2 : cs.toArray.toList = cs := by simp
  rw [e2]
  refine h _ ?_ (sets_grown _ _ _ (grown_refl w (some g)))
  rw [← e]
  exact Box.sets _ _ _ _ hb hk
/-- The store of one cell into a box. -/
theorem box_one {w : World} {g k : Nat} {vs vs' : List Value} {v : Value} (hb : Box w g vs) (hk : k < vs.length) (e : vs.set k v = vs') : Box (w.setCell ⟨g, k, none⟩ v) g vs' ∧ w.grownBy (w.setCell ⟨g, k, none⟩ v) (some g) := by
  subst e
  exact ⟨hb.set hk, grown_set (grown_refl w (some g))⟩
/-- What a struct's stores leave. -/
theorem put_facts {w w1 W : World} {g : Nat} (h : Below w.heap.size w w1) (hg : w.heap.size ≤ g) (h1 : w1.grownBy W (some g)) : Below w.heap.size w W := h.grown h1 h.size (fun k e => by injection e with e; omega)
/-- The store of one cell into a box. -/
theorem wp_st1 {ops : Array Oper} {rest : List Oper} {o : Oper} {a : Act} {Q : Exit → Act → World → Prop} {w : World} (hgd : o.guard = none) (ty : TypeId) (x y : Operand) (ho : o.op = .store ty x y) (g k : Nat) (v : Value) (hx : a.eval x = .pointer (some ⟨g, k, none⟩)) (hy : a.eval y = v)
    (hi : (Tryd.prog.info? ty).map (·.size) = some 1) (hc : v.cells = #[v]) (h1 : v.oneCell' = true) {vs vs' : List Value} (hb : Box w g vs) (hk : k < vs.length) (e : vs.set k v = vs')
    (h : ∀ W1, Box W1 g vs' → w.grownBy W1 (some g) → wpList Tryd.prog ops Q rest (a.put o.dst undef) W1) : wpList Tryd.prog ops Q (o :: rest) a w := by
  refine wpList_plain hgd fun _ hK => ?_
  obtain ⟨B, G⟩ := box_one hb hk e
  unfold Oper.wp execOp
  have ht : w.there g k 1 := hb.there (by omega)
  have := run_storeCells_cells (P := Tryd.prog) g k [v] 0 w (fun j hj => by simpa using (ht j (by simpa using hj)).1) (fun j hj => by simpa using (ht j (by simpa using hj)).2) (fun u hu => by rw [List.mem_singleton.1 hu]; exact h1)
  have hrun : (storeVar ty ⟨g, k, none⟩ v).run Tryd.prog w = .ok () (w.setCell ⟨g, k, none⟩ v) := by
    cases hq : Tryd.prog.info? ty with
    | none => simp [hq] at hi
    | some i =>
      have hs : i.size = 1 := by simpa [hq] using hi
      simp only [Nat.add_zero] at this
      simp [storeVar, sizeOf, typeInfo, hq, hc, hs, this, World.setCells]
  simp only [ho, hx, hy, Instr.storeAt, Instr.sureAddr, Sem.run_bind, Sem.run_pure, Result.andThen_ok, hrun]
  exact hK _ _ (h _ B G)
theorem Box.c3 {w : World} {g : Nat} {a b c : Value} (h : Box w g [a, b, c]) : w.cell? ⟨g, 0, none⟩ = some a ∧ w.cell? ⟨g, 1, none⟩ = some b ∧ w.cell? ⟨g, 2, none⟩ = some c := ⟨h.2.1 0, h.2.1 1, h.2.1 2⟩
end Go.Proofs.YtpmbgcfnehplaaaDoor
end
section
/- The literal of a slice of structs. -/
set_option linter.unusedVariables false
set_option linter.unusedSimpArgs false
namespace Go.Proofs.YtpmbgcfnehplaaaDoor
open Go.RowKit

def builtS (P : Program) (e : TypeId) (len : Nat) (parts : List (Nat × Value)) : Option (Array Value) :=
  match P.info? e with
  | some ie => match ie.zero with
    | some z => Instr.fill (fun i => some (i * ie.size, ie.size)) ((Array.range (len * ie.size)).map (z.cells[· % z.cells.size]!)) parts
    | none => none
  | none => none
theorem run_bldS {P : Program} (w : World) (t e : TypeId) (len : Nat) (parts : Array (Nat × Value)) (cells : Array Value) (hu : P.underlying t = some (.slice e)) (n : Nat) (hn : (P.info? e).map (·.size) = some n) (hl : len * n ≤ 2 ^ 24) (h0 : len * n ≠ 0) (h : builtS P e len parts.toList = some cells) :
    (Instr.buildSlice t len parts).run P w = .ok (.slice (some ⟨w.heap.size, 0, none⟩) len len) (w.alloc (.cells cells e)) := by
  unfold builtS at h
  cases hi : P.info? e with
  | none => simp [hi] at h
  | some ie =>
    cases hz : ie.zero with
    | none => simp [hi, hz] at h
    | some z =>
      simp only [hi, hz] at h
      have hs : ie.size = n := by simpa [hi] using hn
      subst hs
      have hl' : ¬ (2 ^ 24 < len * ie.size) := by omega
      simp [Instr.buildSlice, run_underlying hu, sizeOf, typeInfo, zeroValue, hi, hz, hl', h0, h]
      simp [go_sem]
/-- The literal of a slice of structs whose cells are reckoned apart. -/
theorem wp_bldS {ops : Array Oper} {rest : List Oper} {o : Oper} {a : Act} {Q : Exit → Act → World → Prop} {w : World} (hgd : o.guard = none) (ty e : TypeId) (len : Nat) (parts : Array (Nat × Operand)) (ho : o.op = .buildSlice ty len parts) (hu : Tryd.prog.underlying ty = some (.slice e)) (n : Nat) (hn : (Tryd.prog.info? e).map (·.size) = some n) (hl : len * n ≤ 2 ^ 24) (h0 : len * n ≠ 0)
    (ps : List (Nat × Value)) (hp : parts.toList.map (fun p => (p.1, a.eval p.2)) = ps) {cells : Array Value} (hb : builtS Tryd.prog e len ps = some cells)
    (h : wpList Tryd.prog ops Q rest (a.put o.dst (.slice (some ⟨w.heap.size, 0, none⟩) len len)) (w.alloc (.cells cells e))) : wpList Tryd.prog ops Q (o :: rest) a w := by
  have e1 : (parts.map fun (i, x) => (i, a.eval x)).toList = ps := by rw [Array.toList_map]; exact hp
  refine wpList_plain hgd fun _ hK => ?_
  unfold Oper.wp execOp
  simp only [ho, Sem.run_bind, run_bldS w ty e len _ cells hu n hn hl h0 (by rw [e1]; exact hb), Result.andThen_ok]
  exact hK _ _ h
end Go.Proofs.YtpmbgcfnehplaaaDoor
end
section
/- A load of a struct in a quiet region. -/
set_option linter.unusedVariables false
set_option linter.unusedSimpArgs false
namespace Go.Proofs.YtpmbgcfnehplaaaDoor
theorem qld_mid {P : Program} {ops : Array Oper} {rest : List Oper} {o : Oper} {a : Act} {C : World → Prop} {Q : Act → Prop} (hw : Region.wanted o (yielded ops a.tmps) = true) (ty : TypeId) (x : Operand) (ho : o.op = .load ty x) (b k : Nat) (hx : a.eval x = .pointer (some ⟨b, k, none⟩)) (cs : List Value) (d : TypeDesc) (hc : ∀ w, C w → w.rangeAt b k cs)
    (hu : P.underlying ty = some d) (hd : d.isRow = true) (hi : (P.info? ty).map (·.size) = some cs.length) (h : wpQuiet P ops C Q rest (a.put o.dst (.agg cs.toArray))) : wpQuiet P ops C Q (o :: rest) a :=
  BigFrame.wpQuiet_want hw fun K hK => ⟨_, fun w hw' => by
    unfold Oper.quietAt execOp
    simp only [ho, hx, Instr.loadAt, Instr.sureAddr, Sem.run_bind, Sem.run_pure, Result.andThen_ok, run_loadVar_mid w b k ty cs d (hc w hw') hu hd hi]
    exact ⟨rfl, rfl⟩, hK _ h⟩
end Go.Proofs.YtpmbgcfnehplaaaDoor
end
section
/- Results that lie in cells: structs behind result variables. -/
set_option linter.unusedVariables false
set_option linter.unusedSimpArgs false
namespace Go.Proofs.YtpmbgcfnehplaaaDoor
open Go.RowKit

theorem resC {fn : Func} {t : Tmp} {T : TypeId} (h : fn.results = #[.cell t T]) (tmps : Array Value) (P : Program) (w : World) {g : Nat} {v : Value} (hp : tmps.getD t undef = .pointer (some ⟨g, 0, none⟩)) (hv : (loadVar T ⟨g, 0, none⟩).run P w = .ok v w) : (results fn tmps).run P w = .ok v w := by
  have hp' : tmps[t]?.getD undef = .pointer (some ⟨g, 0, none⟩) := by rw [← Array.getD_eq_getD_getElem?]; exact hp
  simp [results, h, hp', hv, asAddr]
theorem resCT {fn : Func} {t x : Tmp} {T : TypeId} (h : fn.results = #[.cell t T, .tmp x]) (tmps : Array Value) (P : Program) (w : World) {g : Nat} {v : Value} (hp : tmps.getD t undef = .pointer (some ⟨g, 0, none⟩)) (hv : (loadVar T ⟨g, 0, none⟩).run P w = .ok v w) : (results fn tmps).run P w = .ok (.tuple #[v, tmps.getD x undef]) w := by
  have hp' : tmps[t]?.getD undef = .pointer (some ⟨g, 0, none⟩) := by rw [← Array.getD_eq_getD_getElem?]; exact hp
  simp [results, h, hp', hv, asAddr]
theorem resCTTT {fn : Func} {t x y z : Tmp} {T : TypeId} (h : fn.results = #[.cell t T, .tmp x, .tmp y, .tmp z]) (tmps : Array Value) (P : Program) (w : World) {g : Nat} {v : Value} (hp : tmps.getD t undef = .pointer (some ⟨g, 0, none⟩)) (hv : (loadVar T ⟨g, 0, none⟩).run P w = .ok v w) : (results fn tmps).run P w = .ok (.tuple #[v, tmps.getD x undef, tmps.getD y undef, tmps.getD z undef]) w := by
  have hp' : tmps[t]?.getD undef = .pointer (some ⟨g, 0, none⟩) := by rw [← Array.getD_eq_getD_getElem?]; exact hp
  simp [results, h, hp', hv, asAddr]
theorem resTCTT {fn : Func} {t x y z : Tmp} {T : TypeId} (h : fn.results = #[.tmp x, .cell t T, .tmp y, .tmp z]) (tmps : Array Value) (P : Program) (w : World) {g : Nat} {v : Value} (hp : tmps.getD t undef = .pointer (some ⟨g, 0, none⟩)) (hv : (loadVar T ⟨g, 0, none⟩).run P w = .ok v w) : (results fn tmps).run P w = .ok (.tuple #[tmps.getD x undef, v, tmps.getD y undef, tmps.getD z undef]) w := by
  have hp' : tmps[t]?.getD undef = .pointer (some ⟨g, 0, none⟩) := by rw [← Array.getD_eq_getD_getElem?]; exact hp
  simp [results, h, hp', hv, asAddr]
/-- What the load of a whole box yields. -/
theorem res_box {w : World} {g : Nat} {cs : List Value} (ty : TypeId) (hb : Box w g cs) (d : TypeDesc) (hu : Tryd.prog.underlying ty = some d) (hd : d.isRow = true) (hi : (Tryd.prog.info? ty).map (·.size) = some cs.length) : (loadVar ty ⟨g, 0, none⟩).run Tryd.prog w = .ok (.agg cs.toArray) w :=
  run_loadVar_mid w g 0 _ cs d (hb.range (fun j v h => by rw [Nat.zero_add]; exact h)) hu hd hi
/-- A row below b, when only blocks from b on have changed. -/
theorem own_und {w w' : World} {base n size b : Nat} {e : TypeId} {v : Value} {xs : List Value} (h : w.ownsRow base e size v n xs) (hb : Below b w w') (hv : ∀ q, v.ownBlock = some q → q < b) : w'.ownsRow base e size v n xs := by
  obtain ⟨h1, h2 | ⟨g, cap, cur, hv', hg, hh, r⟩⟩ := h
  · exact ⟨h1, .inl h2⟩
  · have hlt : g < b := hv g (by rw [hv']; rfl)
    exact ⟨h1, .inr ⟨g, cap, cur, hv', hg, (hb.block g hlt).trans hh, r⟩⟩
end Go.Proofs.YtpmbgcfnehplaaaDoor
end
