/- Several texts in one: U U3. -/
import Derived.Test.YtdiflpbioohddaaDoortG9toVc
import Derived.Deep.MidRow
set_option linter.unusedVariables false
set_option linter.unusedSimpArgs false
section
namespace Go.Proofs.YtdiflpbioohddaaDoor
open Go.RowKit
theorem flat_get {α : Type} {enc : α → List Int} {sz : Nat} (he : ∀ x, (enc x).length = sz) : ∀ (xs : List α) (k j : Nat) (x : α), xs[k]? = some x → j < sz → (xs.flatMap enc)[k * sz + j]? = (enc x)[j]?
 | [], k, j, x, h, _ => by simp at h
 | a :: l, 0, j, x, h, hj => by
  simp only [List.getElem?_cons_zero, Option.some.injEq] at h
  subst h
  rw [List.flatMap_cons, Nat.zero_mul, Nat.zero_add, List.getElem?_append_left (by rw [he]; exact hj)]
 | a :: l, k + 1, j, x, h, hj => by
  simp only [List.getElem?_cons_succ] at h
  rw [List.flatMap_cons, List.getElem?_append_right (by rw [he]; rw [Nat.add_mul]; omega), he, show (k + 1) * sz + j - sz = k * sz + j by rw [Nat.add_mul]; omega]
  exact flat_get he l k j x h hj
theorem flat_length {α : Type} {enc : α → List Int} {sz : Nat} (he : ∀ x, (enc x).length = sz) : ∀ (xs : List α), (xs.flatMap enc).length = xs.length * sz
 | [] => by simp
 | a :: l => by rw [List.flatMap_cons, List.length_append, he, flat_length he l, List.length_cons, Nat.add_mul]; omega
set_option maxRecDepth 100000 in
theorem app_row {ops : Array Oper} {rest : List Oper} {o : Oper} {a : Act} {Q : Exit → Act → World → Prop} (w : World) (hg : o.guard = none) (s x : Operand) (S E : TypeId) (z : Value) (size bytes : Nat)
  (ho : o.op = .call { callee := .builtin .append, args := #[s, x], argTypes := #[S, S] }) (hu : Tryd.prog.underlying S = some (.slice E)) (info : (Tryd.prog.info? E).map (fun i => (i.zero, i.size, i.bytes)) = some (some z, size, bytes)) (hzs : z.cells.size = size) (hpos : 0 < size) (hby : bytes ≤ 1000)
  (base : Nat) {v : Value} {n m c : Nat} {xs ys : List Value} {A : Option Addr} (hs : a.eval s = v) (hx : a.eval x = .slice A m c) (hown : w.ownsRow base E size v n xs) (hl : ys.length = m * size)
  (hy : ∀ j u, ys[j]? = some u → ∃ ad, A = some ad ∧ w.cell? (ad.add j) = some u) (h1 : ∀ u ∈ ys, u.oneCell' = true) (hn : n + m ≤ 100000000) (hbase : base ≤ w.heap.size)
  (h : ∀ v' w', w'.ownsRow base E size v' (n + m) (xs ++ ys) → w.grownBy w' v.ownBlock → (v'.ownBlock = v.ownBlock ∨ v'.ownBlock = some w.heap.size) → wpList Tryd.prog ops Q rest (a.put o.dst v') w') : wpList Tryd.prog ops Q (o :: rest) a w := by
 refine wpList_plain hg fun K hK => ?_
 obtain ⟨i0, hi, hz0, hz1, hz2⟩ := info_parts info
 have main : ∃ v' w', (Builtin.append_ #[S, S] o.type #[v, .slice A m c]).run Tryd.prog w = .ok v' w' ∧ w'.ownsRow base E size v' (n + m) (xs ++ ys) ∧ w.grownBy w' v.ownBlock ∧ (v'.ownBlock = v.ownBlock ∨ v'.ownBlock = some w.heap.size) := by
  cases A with
  | none =>
   have hm : ys = [] := by
    cases ys with
    | nil => rfl
    | cons y t => obtain ⟨ad, e, _⟩ := hy 0 y (by simp); cases e
   subst hm
   have hm0 : m = 0 := by
    rcases Nat.eq_zero_or_pos m with h | h
    ·exact h
    ·have : 0 < m * size := Nat.mul_pos h hpos
     simp at hl; omega
   subst hm0
   refine ⟨v, w, ?_, by simpa using hown, ⟨rfl, rfl, rfl, Nat.le_refl _, fun _ _ _ => rfl⟩, .inl rfl⟩
   rcases hown.2 with ⟨rfl, _⟩ | ⟨g, cap, cur, rfl, _, _, hnc, _⟩
   ·simp [Builtin.append_, run_underlying hu, sizeOf, typeInfo, hi, Builtin.lenOf, Builtin.firstCells]
   ·simp [Builtin.append_, run_underlying hu, sizeOf, typeInfo, hi, Builtin.lenOf, Builtin.firstCells, hnc, storeCells]
  | some ad =>
   have hnews : ∀ j u, ys[j]? = some u → w.cell? (ad.add j) = some u := fun j u hu => by
    obtain ⟨ad', e, h⟩ := hy j u hu
    injection e with e
    rw [e]; exact h
   obtain ⟨v', w', h1, h2, h3, _, h5⟩ := run_append_own_at (P := Tryd.prog) w base S o.type E i0 z size bytes hu hi hz0 hz1 hz2 hzs hpos v n _ hown ad m c ys hl hnews h1
    (by unfold maxLen; omega) (by have : (n + m) * bytes ≤ 100000000 * 1000 := Nat.mul_le_mul hn hby; omega) hbase
   exact ⟨v', w', h1, h2, h3, h5⟩
 obtain ⟨v', w', hrun, h1, h2, h3⟩ := main
 unfold Oper.wp execOp
 simp only [ho, resolve, invoke, builtin, Sem.run_bind, Sem.run_pure, Result.andThen_ok, List.map_toArray, List.map_cons, List.map_nil, hs, hx, hrun]
 exact hK _ _ (h v' w' h1 h2 h3)
theorem zrow_cells (z : Value) (n sz : Nat) (hz : z.cells = Array.replicate sz (.int .i64 0)) (hp : 0 < sz) : (madeCells z.cells (n * sz)).toList = (List.replicate (n * sz) (0 : Int)).map (Value.int .i64) := by
 apply List.ext_getElem?
 intro k
 simp only [madeCells, hz, Array.toList_map, Array.toList_range, List.getElem?_map, List.getElem?_replicate, Array.size_replicate]
 rcases Nat.lt_or_ge k (n * sz) with h | h
 ·rw [List.getElem?_range h, if_pos h]
  have := Nat.mod_lt k hp
  simp [this]
 ·rw [List.getElem?_eq_none (by simpa using h), if_neg (by omega)]; rfl
theorem mk_row {ops : Array Oper} {rest : List Oper} {o : Oper} {a : Act} {Q : Exit → Act → World → Prop} {w : World} (hg : o.guard = none) (s c : Operand) (S E : TypeId) (z : Value) (size bytes : Nat) (hop : o.op = Op.makeSlice S s c)
  (hu : Tryd.prog.underlying S = some (.slice E)) (info : (Tryd.prog.info? E).map (fun i => (i.zero, i.size, i.bytes)) = some (some z, size, bytes)) (hz : z.cells = Array.replicate size (.int .i64 0)) (hpos : 0 < size) (hby : bytes ≤ 1000)
  (base n : Nat) {N : Int} (hs : a.eval s = .int .i64 N) (hc : a.eval c = .int .i64 N) (hN : N = (n : Int)) (hn : n ≤ 100000000) (hb : base ≤ w.heap.size)
  (h : ∀ w', w'.ownsRow base E size (.slice (some ⟨w.heap.size, 0, none⟩) n n) n ((List.replicate (n * size) (0 : Int)).map (Value.int .i64)) → Below w.heap.size w w' → wpList Tryd.prog ops Q rest (a.put o.dst (.slice (some ⟨w.heap.size, 0, none⟩) n n)) w') :
  wpList Tryd.prog ops Q (o :: rest) a w := by
 subst hN
 obtain ⟨i0, hi, hz0, hz1, hz2⟩ := info_parts info
 refine wpList_make_full w hg s c S hop base E i0 z size hu hi hz0 hz1 .i64 .i64 n n n hs hc rfl rfl (by rw [hz2]; have : bytes * n ≤ 1000 * 100000000 := Nat.mul_le_mul hby hn; omega) (by unfold maxLen; omega) hb fun w' h1 h2 => h w' ?_ ?_
 ·rw [← zrow_cells z n size hz hpos]; exact h1
 ·exact (Below.refl _ _).grown h2 (Nat.le_refl _) (by intro k hk; cases hk)
def Box (w : World) (g : Nat) (vs : List Value) : Prop := g < w.heap.size ∧ (∀ k, w.cell? ⟨g, k, none⟩ = vs[k]?) ∧ ∀ k, w.frozen? ⟨g, k, none⟩ = false
theorem Box.new {w : World} {vs : Array Value} {t : TypeId} {g : Nat} (h : g = w.heap.size) : Box (w.alloc (.cells vs t)) g vs.toList := by
 subst h
 refine ⟨by simp, fun k => ?_, fun k => ?_⟩
 ·rw [cell_of_row _ w.heap.size k vs t (0, 0) (heap_alloc_new w _)]
  simp
 ·exact frozen_of_row _ w.heap.size k vs t (heap_alloc_new w _)
theorem Box.block {w w' : World} {g : Nat} {vs : List Value} (h : Box w g vs) (hb : w'.heap[g]? = w.heap[g]?) (hs : w.heap.size ≤ w'.heap.size) : Box w' g vs :=
 ⟨Nat.lt_of_lt_of_le h.1 hs, fun k => (World.cell?_of_block (a := ⟨g, k, none⟩) hb).trans (h.2.1 k), fun k => (World.frozen?_of_block (a := ⟨g, k, none⟩) hb).trans (h.2.2 k)⟩
theorem Box.keep {w w' : World} {g : Nat} {vs : List Value} (h : Box w g vs) (hb : Below w.heap.size w w') : Box w' g vs := h.block (hb.block g h.1) hb.size
theorem Box.grown {w w' : World} {g : Nat} {vs : List Value} {r : Option Nat} (h : Box w g vs) (hb : w.grownBy w' r) (hn : some g ≠ r) : Box w' g vs := h.block (hb.block g h.1 hn) hb.size
theorem Box.alloc {w : World} {g : Nat} {vs : List Value} (h : Box w g vs) (o : Obj) : Box (w.alloc o) g vs := h.keep ((Below.refl _ _).alloc (Nat.le_refl _) o)
theorem Box.drew {w : World} {g : Nat} {vs : List Value} (h : Box w g vs) : Box w.drew g vs := h.keep ((Below.refl _ _).drew)
theorem Box.past {w : World} {g b k : Nat} {vs : List Value} {u : Value} (h : Box w g vs) (hn : b ≠ g) : Box (w.setCell ⟨b, k, none⟩ u) g vs :=
 h.block (Below.heap_setCell w _ u g (fun e => hn e.symm)) (by simp [World.setCell])
theorem Box.set {w : World} {g k : Nat} {vs : List Value} {u : Value} (h : Box w g vs) (hk : k < vs.length := by simp) : Box (w.setCell ⟨g, k, none⟩ u) g (vs.set k u) := by
 obtain ⟨h1, h2, h3⟩ := h
 refine ⟨by simpa [World.setCell] using h1, fun j => ?_, fun j => by rw [World.frozen?_setCell]; exact h3 j⟩
 rw [List.getElem?_set]
 by_cases e : k = j
 ·subst e
  rw [if_pos rfl, if_pos hk]
  exact World.cell?_setCell_same _ _ _ ((h2 k).trans (List.getElem?_eq_getElem hk))
 ·rw [if_neg e, World.cell?_setCell_other _ _ _ _ (by intro hc; injection hc with _ hc; exact e hc)]
  exact h2 j
theorem Box.mem {w : World} {g k : Nat} {vs : List Value} {v : Value} (h : Box w g vs) (hc : w.cell? ⟨g, k, none⟩ = some v) : v ∈ vs := by
 rw [h.2.1 k] at hc
 exact List.mem_of_getElem? hc
theorem Box.mem_at {w : World} {g : Nat} {vs : List Value} {v : Value} {a : Addr} (h : Box w g vs) (hc : w.cell? a = some v) (hb : a.block = g) : v ∈ vs := by
 obtain ⟨b, o, s⟩ := a
 simp only at hb
 subst hb
 cases s with
 | none => exact h.mem hc
 | some s =>
  unfold World.cell? at hc
  simp only [Option.isSome_some, if_true] at hc
  split at hc <;> cases hc
theorem Box.c2 {w : World} {g : Nat} {a b : Value} (h : Box w g [a, b]) : w.cell? ⟨g, 0, none⟩ = some a ∧ w.cell? ⟨g, 1, none⟩ = some b := ⟨h.2.1 0, h.2.1 1⟩
theorem Box.c4 {w : World} {g : Nat} {a b c d : Value} (h : Box w g [a, b, c, d]) : w.cell? ⟨g, 0, none⟩ = some a ∧ w.cell? ⟨g, 1, none⟩ = some b ∧ w.cell? ⟨g, 2, none⟩ = some c ∧ w.cell? ⟨g, 3, none⟩ = some d := ⟨h.2.1 0, h.2.1 1, h.2.1 2, h.2.1 3⟩
theorem Box.c12 {w : World} {g : Nat} {a b c d a' b' c' d' i j k l : Value} (h : Box w g [a, b, c, d, a', b', c', d', i, j, k, l]) :
  (w.cell? ⟨g, 0, none⟩ = some a ∧ w.cell? ⟨g, 1, none⟩ = some b ∧ w.cell? ⟨g, 2, none⟩ = some c ∧ w.cell? ⟨g, 3, none⟩ = some d) ∧ (w.cell? ⟨g, 4, none⟩ = some a' ∧ w.cell? ⟨g, 5, none⟩ = some b' ∧ w.cell? ⟨g, 6, none⟩ = some c' ∧ w.cell? ⟨g, 7, none⟩ = some d') ∧
  w.cell? ⟨g, 8, none⟩ = some i ∧ w.cell? ⟨g, 9, none⟩ = some j ∧ w.cell? ⟨g, 10, none⟩ = some k ∧ w.cell? ⟨g, 11, none⟩ = some l :=
 ⟨⟨h.2.1 0, h.2.1 1, h.2.1 2, h.2.1 3⟩, ⟨h.2.1 4, h.2.1 5, h.2.1 6, h.2.1 7⟩, h.2.1 8, h.2.1 9, h.2.1 10, h.2.1 11⟩
def fill12 (w : World) (g : Nat) (a b c d a' b' c' d' i j k l : Value) : World :=
 (((((((((((w.setCell ⟨g, 0, none⟩ a).setCell ⟨g, 1, none⟩ b).setCell ⟨g, 2, none⟩ c).setCell ⟨g, 3, none⟩ d).setCell ⟨g, 4, none⟩ a').setCell ⟨g, 5, none⟩ b').setCell ⟨g, 6, none⟩ c').setCell ⟨g, 7, none⟩ d').setCell ⟨g, 8, none⟩ i).setCell ⟨g, 9, none⟩ j).setCell ⟨g, 10, none⟩ k).setCell ⟨g, 11, none⟩ l
theorem fill12_grown (w : World) (g : Nat) (a b c d a' b' c' d' i j k l : Value) : w.grownBy (fill12 w g a b c d a' b' c' d' i j k l) (some g) :=
 grown_set (grown_set (grown_set (grown_set (grown_set (grown_set (grown_set (grown_set (grown_set (grown_set (grown_set (grown_set (grown_refl w (some g)))))))))))))
theorem Box.fill12 {w : World} {g : Nat} {z0 z1 z2 z3 z4 z5 z6 z7 z8 z9 z10 z11 : Value} (h : Box w g [z0, z1, z2, z3, z4, z5, z6, z7, z8, z9, z10, z11]) (a b c d a' b' c' d' i j k l : Value) : Box (fill12 w g a b c d a' b' c' d' i j k l) g [a, b, c, d, a', b', c', d', i, j, k, l] :=
 ((((((((((((h.set (k := 0) (u := a)).set (k := 1) (u := b)).set (k := 2) (u := c)).set (k := 3) (u := d)).set (k := 4) (u := a')).set (k := 5) (u := b')).set (k := 6) (u := c')).set (k := 7) (u := d')).set (k := 8) (u := i)).set (k := 9) (u := j)).set (k := 10) (u := k)).set (k := 11) (u := l))
def encT (t : Int × Int) : List Int := [t.1, t.2]
theorem info_term : (Tryd.prog.info? 80).map (fun i => (i.zero, i.size, i.bytes)) = some (some (.agg #[.int .i64 0, .int .i64 0]), 2, 16) := by kernel_rfl
def OwnTm (base : Nat) (w : World) (v : Value) (ts : List (Int × Int)) : Prop := w.ownsRow base 80 2 v ts.length ((ts.flatMap encT).map (Value.int .i64)) ∧ ∀ t ∈ ts, I64 t.1 ∧ I64 t.2
theorem OwnTm.nil {base : Nat} {w : World} : OwnTm base w (.slice none 0 0) [] := ⟨World.ownsRow_nil _ _ _ _, by simp⟩
theorem OwnTm.grow {base : Nat} {w w' : World} {v : Value} {ts : List (Int × Int)} (h : OwnTm base w v ts) (hb : Below w.heap.size w w') : OwnTm base w' v ts := ⟨own_grow h.1 hb, h.2⟩
theorem OwnTm.base {base base' : Nat} {w : World} {v : Value} {ts : List (Int × Int)} (h : OwnTm base w v ts) (hb : base' ≤ base) : OwnTm base' w v ts := ⟨own_base h.1 hb, h.2⟩
theorem flatT_get {ts : List (Int × Int)} {k j : Nat} {t : Int × Int} (h : ts[k]? = some t) (hj : j < 2) : ((ts.flatMap encT).map (Value.int .i64))[k * 2 + j]? = ((encT t).map (Value.int .i64))[j]? := by
 rw [List.getElem?_map, List.getElem?_map, flat_get (enc := encT) (sz := 2) (fun _ => rfl) ts k j t h hj]
theorem OwnTm.form {base : Nat} {w : World} {v : Value} {ts : List (Int × Int)} (h : OwnTm base w v ts) : ∃ A c, v = .slice A ts.length c ∧ ts.length ≤ c ∧ TermsAt w A ts := by
 obtain ⟨A, c, rfl, hc⟩ := own_form h.1
 refine ⟨A, c, rfl, hc, fun k t hk => ?_⟩
 obtain ⟨g, e0, hg, d0⟩ := own_cells h.1 (k := k * 2 + 0) (v := .int .i64 t.1) (by rw [flatT_get hk (by omega)]; rfl)
 obtain ⟨g1, e1, _, d1⟩ := own_cells h.1 (k := k * 2 + 1) (v := .int .i64 t.2) (by rw [flatT_get hk (by omega)]; rfl)
 rw [e0] at e1
 injection e1 with e1; injection e1 with e1
 subst e1
 have hi := h.2 t (List.mem_of_getElem? hk)
 exact ⟨_, e0, hg, by rw [add_cellsB]; exact d0, by rw [add_cellsB]; exact d1, hi.1, hi.2⟩
theorem add_one (a : Addr) (n : Nat) : a.add (n + 1) = ⟨(a.add n).block, (a.add n).off + 1, none⟩ := by
 rw [← add_add]; simp [Addr.add]
theorem TermsAt.row {w : World} {A : Option Addr} {ts : List (Int × Int)} (h : TermsAt w A ts) : ∀ j u, ((ts.flatMap encT).map (Value.int .i64))[j]? = some u → ∃ ad, A = some ad ∧ w.cell? (ad.add j) = some u := fun j u hu => by
 have hj : j < ts.length * 2 := by
  have := (List.getElem?_eq_some_iff.1 hu).1
  rw [List.length_map, flat_length (enc := encT) (sz := 2) (fun _ => rfl)] at this
  exact this
 have hk : j / 2 < ts.length := by omega
 have ht : ts[j / 2]? = some ts[j / 2] := List.getElem?_eq_getElem hk
 obtain ⟨ad, e, _, c0, c1, _⟩ := h _ _ ht
 refine ⟨ad, e, ?_⟩
 rcases (by omega : j % 2 = 0 ∨ j % 2 = 1) with h2 | h2
 ·have ej : j = j / 2 * 2 + 0 := by omega
  rw [ej, flatT_get ht (by omega)] at hu
  simp [encT] at hu
  rw [ej, Nat.add_zero, c0, hu]
 ·have ej : j = j / 2 * 2 + 1 := by omega
  rw [ej, flatT_get ht (by omega)] at hu
  simp [encT] at hu
  rw [ej, add_one, c1, hu]
theorem TermsAt.grown {w w' : World} {A : Option Addr} {ts : List (Int × Int)} {r : Option Nat} (h : TermsAt w A ts) (hg : w.grownBy w' r) (hn : ∀ a, A = some a → some a.block ≠ r) : TermsAt w' A ts := fun k t hk => by
 obtain ⟨ad, e, h1, c0, c1, i1, i2⟩ := h k t hk
 exact ⟨ad, e, Nat.lt_of_lt_of_le h1 hg.size, hg.cell c0 (by rw [block_add]; exact hn ad e), hg.cell c1 (by show some (ad.add _).block ≠ _; rw [block_add]; exact hn ad e), i1, i2⟩
theorem NodesAt.grown {w w' : World} {A : Option Addr} {ns : List (List (Int × Int))} {r : Option Nat} (h : NodesAt w A ns) (hg : w.grownBy w' r) (hn : ∀ a, A = some a → some a.block ≠ r) (hT : ∀ (k : Nat) ts a B c, ns[k]? = some ts → A = some a → w.cell? (a.add k) = some (.slice B ts.length c) → TermsAt w B ts → ∀ b, B = some b → some b.block ≠ r) : NodesAt w' A ns := fun k ts hk => by
 obtain ⟨ad, B, c, e, h1, c0, ht⟩ := h k ts hk
 exact ⟨ad, B, c, e, Nat.lt_of_lt_of_le h1 hg.size, hg.cell c0 (by rw [block_add]; exact hn ad e), ht.grown hg (hT k ts ad B c hk e c0 ht)⟩
theorem ints_one {l : List Int} : ∀ u ∈ l.map (Value.int .i64), u.oneCell' = true := fun u hu => by
 obtain ⟨x, _, rfl⟩ := List.mem_map.1 hu; rfl
theorem app_terms {ops : Array Oper} {rest : List Oper} {o : Oper} {a : Act} {Q : Exit → Act → World → Prop} (w : World) (hg : o.guard = none) (s x : Operand) (ho : o.op = .call { callee := .builtin .append, args := #[s, x], argTypes := #[34, 34] })
  (base : Nat) {v : Value} {l m : List (Int × Int)} {A : Option Addr} {n c : Nat} (hs : a.eval s = v) (hx : a.eval x = .slice A n c) (hown : OwnTm base w v l) (hI : TermsAt w A m) (hm : m.length = n) (hn : l.length + n ≤ 100000000) (hbase : base ≤ w.heap.size)
  (h : ∀ v' w', OwnTm base w' v' (l ++ m) → w.grownBy w' v.ownBlock → (v'.ownBlock = v.ownBlock ∨ v'.ownBlock = some w.heap.size) → wpList Tryd.prog ops Q rest (a.put o.dst v') w') : wpList Tryd.prog ops Q (o :: rest) a w := by
 subst hm
 refine app_row w hg s x 34 80 (.agg #[.int .i64 0, .int .i64 0]) 2 16 ho Tryd.underlying34 info_term rfl (by decide) (by decide) base hs hx hown.1 (ys := (m.flatMap encT).map (Value.int .i64)) ?_ hI.row ints_one hn hbase fun v' w' h1 h2 h3 => h v' w' ⟨?_, ?_⟩ h2 h3
 ·rw [List.length_map, flat_length (enc := encT) (sz := 2) (fun _ => rfl)]
 ·rw [List.flatMap_append, List.map_append, List.length_append]; exact h1
 ·intro t ht
  rcases List.mem_append.1 ht with ht | ht
  ·exact hown.2 t ht
  ·obtain ⟨k, hk, rfl⟩ := List.getElem_of_mem ht
   obtain ⟨_, _, _, _, _, i1, i2⟩ := hI k _ (List.getElem?_eq_getElem hk)
   exact ⟨i1, i2⟩
theorem repT : ∀ n, (List.replicate n ((0 : Int), (0 : Int))).flatMap encT = List.replicate (n * 2) 0
 | 0 => rfl
 | n + 1 => by rw [List.replicate_succ, List.flatMap_cons, repT n, show (n + 1) * 2 = 2 + n * 2 by omega, ← List.replicate_append_replicate]; rfl
theorem mk_term {ops : Array Oper} {rest : List Oper} {o : Oper} {a : Act} {Q : Exit → Act → World → Prop} {w : World} (hg : o.guard = none) (s c : Operand) (hop : o.op = Op.makeSlice 34 s c)
  (base n : Nat) {N : Int} (hs : a.eval s = .int .i64 N) (hc : a.eval c = .int .i64 N) (hN : N = (n : Int)) (hn : n ≤ 100000000) (hb : base ≤ w.heap.size)
  (h : ∀ w', OwnTm base w' (.slice (some ⟨w.heap.size, 0, none⟩) n n) (List.replicate n (0, 0)) → Below w.heap.size w w' → wpList Tryd.prog ops Q rest (a.put o.dst (.slice (some ⟨w.heap.size, 0, none⟩) n n)) w') :
  wpList Tryd.prog ops Q (o :: rest) a w := by
 refine mk_row hg s c 34 80 (.agg #[.int .i64 0, .int .i64 0]) 2 16 hop Tryd.underlying34 info_term rfl (by decide) (by decide) base n hs hc hN hn hb fun w' h1 h2 => h w' ⟨?_, ?_⟩ h2
 ·rw [List.length_replicate, repT]; exact h1
 ·intro t ht; rw [List.eq_of_mem_replicate ht]; exact ⟨⟨by decide, by decide⟩, ⟨by decide, by decide⟩⟩
theorem OwnTm.block {base : Nat} {w : World} {g n c : Nat} {ts : List (Int × Int)} (h : OwnTm base w (.slice (some ⟨g, 0, none⟩) n c) ts) : base ≤ g ∧ g < w.heap.size := h.1.lt g rfl
theorem OwnTm.cells {base : Nat} {w : World} {g n c : Nat} {ts : List (Int × Int)} (h : OwnTm base w (.slice (some ⟨g, 0, none⟩) n c) ts) {k : Nat} {t : Int × Int} (hk : ts[k]? = some t) : w.cell? ⟨g, k * 2, none⟩ = some (.int .i64 t.1) ∧ w.cell? ⟨g, k * 2 + 1, none⟩ = some (.int .i64 t.2) := by
 obtain ⟨A, c', e, _⟩ := own_form h.1
 injection e with _ e2
 subst e2
 have hkl := (List.getElem?_eq_some_iff.1 hk).1
 exact ⟨by rw [h.1.cellAt (k * 2) (by omega), ← Nat.add_zero (k * 2), flatT_get hk (by omega)]; rfl, by rw [h.1.cellAt (k * 2 + 1) (by omega), flatT_get hk (by omega)]; rfl⟩
theorem OwnTm.free {base : Nat} {w : World} {g n c : Nat} {ts : List (Int × Int)} (h : OwnTm base w (.slice (some ⟨g, 0, none⟩) n c) ts) (k : Nat) : w.frozen? ⟨g, k, none⟩ = false := by
 obtain ⟨A, c', e, _⟩ := own_form h.1
 injection e with _ e2
 subst e2
 exact h.1.frozenAt k
theorem flatT_set : ∀ (ts : List (Int × Int)) (k : Nat) (t : Int × Int), (ts.set k t).flatMap encT = ((ts.flatMap encT).set (k * 2) t.1).set (k * 2 + 1) t.2
 | [], k, t => by simp
 | a :: l, 0, t => by simp [encT]
 | a :: l, k + 1, t => by
  rw [List.set_cons_succ, List.flatMap_cons, flatT_set l k t, List.flatMap_cons]
  show _ = (([a.1, a.2] ++ l.flatMap encT).set ((k + 1) * 2) t.1).set ((k + 1) * 2 + 1) t.2
  rw [show (k + 1) * 2 = k * 2 + 1 + 1 by omega]
  simp [encT]
theorem OwnTm.set {base : Nat} {w : World} {g n c : Nat} {ts : List (Int × Int)} (h : OwnTm base w (.slice (some ⟨g, 0, none⟩) n c) ts) (k : Nat) {t : Int × Int} (h1 : I64 t.1) (h2 : I64 t.2) :
  OwnTm base ((w.setCell ⟨g, k * 2, none⟩ (.int .i64 t.1)).setCell ⟨g, k * 2 + 1, none⟩ (.int .i64 t.2)) (.slice (some ⟨g, 0, none⟩) n c) (ts.set k t) := by
 obtain ⟨A, c', e, _⟩ := own_form h.1
 injection e with _ e2
 subst e2
 have a := (h.1.stored (k * 2) (.int .i64 t.1)).1
 have b := (a.stored (k * 2 + 1) (.int .i64 t.2)).1
 refine ⟨by rw [List.length_set, flatT_set, List.map_set, List.map_set]; exact b, fun q hq => ?_⟩
 rcases List.mem_or_eq_of_mem_set hq with hq | hq
 ·exact h.2 q hq
 ·subst hq; exact ⟨h1, h2⟩
end Go.Proofs.YtdiflpbioohddaaDoor
end
section
namespace Go.Proofs.YtdiflpbioohddaaDoor
open Go.RowKit
theorem Box.range {w : World} {g o : Nat} {vs cs : List Value} (h : Box w g vs) (e : ∀ j v, cs[j]? = some v → vs[o + j]? = some v) : w.rangeAt g o cs := fun j v hv => (h.2.1 (o + j)).trans (e j v hv)
theorem Box.there {w : World} {g o n : Nat} {vs : List Value} (h : Box w g vs) (hn : o + n ≤ vs.length) : w.there g o n := fun j hj => ⟨by rw [h.2.1, List.getElem?_eq_getElem (by omega)]; rfl, h.2.2 _⟩
theorem Box.sets {g : Nat} : ∀ (l : List Value) (k : Nat) (w : World) (vs : List Value), Box w g vs → k + l.length ≤ vs.length → Box (w.setCells g k l) g (vs.take k ++ l ++ vs.drop (k + l.length))
 | [], k, w, vs, h, _ => by
  show Box w g _
  rw [List.append_nil, List.length_nil, Nat.add_zero, List.take_append_drop]; exact h
 | v :: l, k, w, vs, h, hk => by
  have hk' : k < vs.length := by simp at hk; omega
  have h1 := h.set (k := k) (u := v) hk'
  have h2 := Box.sets l (k + 1) _ _ h1 (by simp at hk ⊢; omega)
  have e : (vs.set k v).take (k + 1) ++ l ++ (vs.set k v).drop (k + 1 + l.length) = vs.take k ++ (v :: l) ++ vs.drop (k + (v :: l).length) := by
   rw [List.drop_set_of_lt (by omega), List.length_cons, show k + (l.length + 1) = k + 1 + l.length by omega, List.take_add_one, List.getElem?_set_self hk', List.take_set_of_le (Nat.le_refl _)]
   simp
  rw [← e]; exact h2
theorem sets_grown {a : World} {g : Nat} : ∀ (l : List Value) (k : Nat) (w : World), a.grownBy w (some g) → a.grownBy (w.setCells g k l) (some g)
 | [], _, _, h => h
 | v :: l, k, w, h => sets_grown l (k + 1) _ (grown_set h)
theorem wp_ld {ops : Array Oper} {rest : List Oper} {o : Oper} {a : Act} {Q : Exit → Act → World → Prop} {w : World} (hgd : o.guard = none) (ty : TypeId) (x : Operand) (ho : o.op = .load ty x) (g k : Nat) (hx : a.eval x = .pointer (some ⟨g, k, none⟩)) {vs : List Value} (hb : Box w g vs) (cs : List Value)
  (e : ∀ j v, cs[j]? = some v → vs[k + j]? = some v) (d : TypeDesc) (hu : Tryd.prog.underlying ty = some d) (hd : d.isRow = true) (hi : (Tryd.prog.info? ty).map (·.size) = some cs.length)
  (h : wpList Tryd.prog ops Q rest (a.put o.dst (.agg cs.toArray)) w) : wpList Tryd.prog ops Q (o :: rest) a w :=
 wpList_load_mid hgd ty x ho g k hx cs d (hb.range e) hu hd hi h
theorem wp_st {ops : Array Oper} {rest : List Oper} {o : Oper} {a : Act} {Q : Exit → Act → World → Prop} {w : World} (hgd : o.guard = none) (ty : TypeId) (x y : Operand) (ho : o.op = .store ty x y) (g k : Nat) (cs : List Value) (hx : a.eval x = .pointer (some ⟨g, k, none⟩)) (hy : a.eval y = .agg cs.toArray)
  (hi : (Tryd.prog.info? ty).map (·.size) = some cs.length) (h1 : cs.all (·.oneCell') = true) {vs vs' : List Value} (hb : Box w g vs) (hk : k + cs.length ≤ vs.length) (e : vs.take k ++ cs ++ vs.drop (k + cs.length) = vs')
  (h : ∀ W1, Box W1 g vs' → w.grownBy W1 (some g) → wpList Tryd.prog ops Q rest (a.put o.dst undef) W1) : wpList Tryd.prog ops Q (o :: rest) a w := by
 refine wpList_store_mid hgd ty x y ho g k cs.toArray hx hy (by simpa using hb.there hk) (by simpa using hi) (all_oneCell_toArray (fun v hv => List.all_eq_true.1 h1 v hv)) ?_
 have e2 : cs.toArray.toList = cs := by simp
 rw [e2]
 refine h _ ?_ (sets_grown _ _ _ (grown_refl w (some g)))
 rw [← e]
 exact Box.sets _ _ _ _ hb hk
theorem box_one {w : World} {g k : Nat} {vs vs' : List Value} {v : Value} (hb : Box w g vs) (hk : k < vs.length) (e : vs.set k v = vs') : Box (w.setCell ⟨g, k, none⟩ v) g vs' ∧ w.grownBy (w.setCell ⟨g, k, none⟩ v) (some g) := by
 subst e
 exact ⟨hb.set hk, grown_set (grown_refl w (some g))⟩
theorem put_facts {w w1 W : World} {g : Nat} (h : Below w.heap.size w w1) (hg : w.heap.size ≤ g) (h1 : w1.grownBy W (some g)) : Below w.heap.size w W := h.grown h1 h.size (fun k e => by injection e with e; omega)
theorem wp_st1 {ops : Array Oper} {rest : List Oper} {o : Oper} {a : Act} {Q : Exit → Act → World → Prop} {w : World} (hgd : o.guard = none) (ty : TypeId) (x y : Operand) (ho : o.op = .store ty x y) (g k : Nat) (v : Value) (hx : a.eval x = .pointer (some ⟨g, k, none⟩)) (hy : a.eval y = v)
  (hi : (Tryd.prog.info? ty).map (·.size) = some 1) (hc : v.cells = #[v]) (h1 : v.oneCell' = true) {vs vs' : List Value} (hb : Box w g vs) (hk : k < vs.length) (e : vs.set k v = vs')
  (h : ∀ W1, Box W1 g vs' → w.grownBy W1 (some g) → wpList Tryd.prog ops Q rest (a.put o.dst undef) W1) : wpList Tryd.prog ops Q (o :: rest) a w := by
 refine wpList_plain hgd fun _ hK => ?_
 obtain ⟨B, G⟩ := box_one hb hk e
 unfold Oper.wp execOp
 have ht : w.there g k 1 := hb.there (by omega)
 have := run_storeCells_cells (P := Tryd.prog) g k [v] 0 w (fun j hj => by simpa using (ht j (by simpa using hj)).1) (fun j hj => by simpa using (ht j (by simpa using hj)).2) (fun u hu => by rw [List.mem_singleton.1 hu]; exact h1)
 have hrun : (storeVar ty ⟨g, k, none⟩ v).run Tryd.prog w = .ok () (w.setCell ⟨g, k, none⟩ v) := by
  cases hq : Tryd.prog.info? ty with
  | none => simp [hq] at hi
  | some i =>
   have hs : i.size = 1 := by simpa [hq] using hi
   simp only [Nat.add_zero] at this
   simp [storeVar, sizeOf, typeInfo, hq, hc, hs, this, World.setCells]
 simp only [ho, hx, hy, Instr.storeAt, Instr.sureAddr, Sem.run_bind, Sem.run_pure, Result.andThen_ok, hrun]
 exact hK _ _ (h _ B G)
theorem Box.c3 {w : World} {g : Nat} {a b c : Value} (h : Box w g [a, b, c]) : w.cell? ⟨g, 0, none⟩ = some a ∧ w.cell? ⟨g, 1, none⟩ = some b ∧ w.cell? ⟨g, 2, none⟩ = some c := ⟨h.2.1 0, h.2.1 1, h.2.1 2⟩
end Go.Proofs.YtdiflpbioohddaaDoor
end
