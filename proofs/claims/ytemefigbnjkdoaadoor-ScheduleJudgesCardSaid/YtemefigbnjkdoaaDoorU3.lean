/- Loads and stores of parts of a block that holds exactly these cells, by the kit's laws on ranges. -/
import Derived.Test.YtemefigbnjkdoaaDoorU
import Derived.Deep.MidRow
set_option linter.unusedVariables false
set_option linter.unusedSimpArgs false
namespace Go.Proofs.YtemefigbnjkdoaaDoor
open Go.RowKit

theorem Box.range {w : World} {g o : Nat} {vs cs : List Value} (h : Box w g vs) (e : ∀ j v, cs[j]? = some v → vs[o + j]? = some v) : w.rangeAt g o cs := fun j v hv => (h.2.1 (o + j)).trans (e j v hv)
theorem Box.there {w : World} {g o n : Nat} {vs : List Value} (h : Box w g vs) (hn : o + n ≤ vs.length) : w.there g o n := fun j hj => ⟨by rw [h.2.1, List.getElem?_eq_getElem (by omega)]; rfl, h.2.2 _⟩
theorem Box.sets {g : Nat} : ∀ (l : List Value) (k : Nat) (w : World) (vs : List Value), Box w g vs → k + l.length ≤ vs.length → Box (w.setCells g k l) g (vs.take k ++ l ++ vs.drop (k + l.length))
  | [], k, w, vs, h, _ => by
    show Box w g _
    rw [List.append_nil, List.length_nil, Nat.add_zero, List.take_append_drop]; exact h
  | v :: l, k, w, vs, h, hk => by
    have hk' : k < vs.length := by simp at hk; omega
    have h1 := h.set (k := k) (u := v) hk'
    have h2 := Box.sets l (k + 1) _ _ h1 (by simp at hk ⊢; omega)
    have e : (vs.set k v).take (k + 1) ++ l ++ (vs.set k v).drop (k + 1 + l.length) = vs.take k ++ (v :: l) ++ vs.drop (k + (v :: l).length) := by
      rw [List.drop_set_of_lt (by omega), List.length_cons, show k + (l.length + 1) = k + 1 + l.length by omega, List.take_add_one, List.getElem?_set_self hk', List.take_set_of_le (Nat.le_refl _)]
      simp
    rw [← e]; exact h2
theorem sets_grown {a : World} {g : Nat} : ∀ (l : List Value) (k : Nat) (w : World), a.grownBy w (some g) → a.grownBy (w.setCells g k l) (some g)
  | [], _, _, h => h
  | v :: l, k, w, h => sets_grown l (k + 1) _ (grown_set h)
/-- The load of a part of a box. -/
theorem wp_ld {ops : Array Oper} {rest : List Oper} {o : Oper} {a : Act} {Q : Exit → Act → World → Prop} {w : World} (hgd : o.guard = none) (ty : TypeId) (x : Operand) (ho : o.op = .load ty x) (g k : Nat) (hx : a.eval x = .pointer (some ⟨g, k, none⟩)) {vs : List Value} (hb : Box w g vs) (cs : List Value)
    (e : ∀ j v, cs[j]? = some v → vs[k + j]? = some v) (d : TypeDesc) (hu : Tryd.prog.underlying ty = some d) (hd : d.isRow = true) (hi : (Tryd.prog.info? ty).map (·.size) = some cs.length)
    (h : wpList Tryd.prog ops Q rest (a.put o.dst (.agg cs.toArray)) w) : wpList Tryd.prog ops Q (o :: rest) a w :=
  wpList_load_mid hgd ty x ho g k hx cs d (hb.range e) hu hd hi h
/-- The store of a struct into a box. -/
theorem wp_st {ops : Array Oper} {rest : List Oper} {o : Oper} {a : Act} {Q : Exit → Act → World → Prop} {w : World} (hgd : o.guard = none) (ty : TypeId) (x y : Operand) (ho : o.op = .store ty x y) (g k : Nat) (cs : List Value) (hx : a.eval x = .pointer (some ⟨g, k, none⟩)) (hy : a.eval y = .agg cs.toArray)
    (hi : (Tryd.prog.info? ty).map (·.size) = some cs.length) (h1 : cs.all (·.oneCell') = true) {vs vs' : List Value} (hb : Box w g vs) (hk : k + cs.length ≤ vs.length) (e : vs.take k ++ cs ++ vs.drop (k + cs.length) = vs')
    (h : ∀ W1, Box W1 g vs' → w.grownBy W1 (some g) → wpList Tryd.prog ops Q rest (a.put o.dst undef) W1) : wpList Tryd.prog ops Q (o :: rest) a w := by
  refine wpList_store_mid hgd ty x y ho g k cs.toArray hx hy (by simpa using hb.there hk) (by simpa using hi) (all_oneCell_toArray (fun v hv => List.all_eq_true.1 h1 v hv)) ?_
  have e2 : cs.toArray.toList = cs := by simp
  rw [e2]
  refine h _ ?_ (sets_grown _ _ _ (grown_refl w (some g)))
  rw [← e]
  exact Box.sets _ _ _ _ hb hk
/-- The store of one cell into a box. -/
theorem box_one {w : World} {g k : Nat} {vs vs' : List Value} {v : Value} (hb : Box w g vs) (hk : k < vs.length) (e : vs.set k v = vs') : Box (w.setCell ⟨g, k, none⟩ v) g vs' ∧ w.grownBy (w.setCell ⟨g, k, none⟩ v) (some g) := by
  subst e
  exact ⟨hb.set hk, grown_set (grown_refl w (some g))⟩
/-- What a struct's stores leave. -/
theorem put_facts {w w1 W : World} {g : Nat} (h : Below w.heap.size w w1) (hg : w.heap.size ≤ g) (h1 : w1.grownBy W (some g)) : Below w.heap.size w W := h.grown h1 h.size (fun k e => by injection e with e; omega)
/-- The store of one cell into a box. -/
theorem wp_st1 {ops : Array Oper} {rest : List Oper} {o : Oper} {a : Act} {Q : Exit → Act → World → Prop} {w : World} (hgd : o.guard = none) (ty : TypeId) (x y : Operand) (ho : o.op = .store ty x y) (g k : Nat) (v : Value) (hx : a.eval x = .pointer (some ⟨g, k, none⟩)) (hy : a.eval y = v)
    (hi : (Tryd.prog.info? ty).map (·.size) = some 1) (hc : v.cells = #[v]) (h1 : v.oneCell' = true) {vs vs' : List Value} (hb : Box w g vs) (hk : k < vs.length) (e : vs.set k v = vs')
    (h : ∀ W1, Box W1 g vs' → w.grownBy W1 (some g) → wpList Tryd.prog ops Q rest (a.put o.dst undef) W1) : wpList Tryd.prog ops Q (o :: rest) a w := by
  refine wpList_plain hgd fun _ hK => ?_
  obtain ⟨B, G⟩ := box_one hb hk e
  unfold Oper.wp execOp
  have ht : w.there g k 1 := hb.there (by omega)
  have := run_storeCells_cells (P := Tryd.prog) g k [v] 0 w (fun j hj => by simpa using (ht j (by simpa using hj)).1) (fun j hj => by simpa using (ht j (by simpa using hj)).2) (fun u hu => by rw [List.mem_singleton.1 hu]; exact h1)
  have hrun : (storeVar ty ⟨g, k, none⟩ v).run Tryd.prog w = .ok () (w.setCell ⟨g, k, none⟩ v) := by
    cases hq : Tryd.prog.info? ty with
    | none => simp [hq] at hi
    | some i =>
      have hs : i.size = 1 := by simpa [hq] using hi
      simp only [Nat.add_zero] at this
      simp [storeVar, sizeOf, typeInfo, hq, hc, hs, this, World.setCells]
  simp only [ho, hx, hy, Instr.storeAt, Instr.sureAddr, Sem.run_bind, Sem.run_pure, Result.andThen_ok, hrun]
  exact hK _ _ (h _ B G)
theorem Box.c3 {w : World} {g : Nat} {a b c : Value} (h : Box w g [a, b, c]) : w.cell? ⟨g, 0, none⟩ = some a ∧ w.cell? ⟨g, 1, none⟩ = some b ∧ w.cell? ⟨g, 2, none⟩ = some c := ⟨h.2.1 0, h.2.1 1, h.2.1 2⟩
end Go.Proofs.YtemefigbnjkdoaaDoor
