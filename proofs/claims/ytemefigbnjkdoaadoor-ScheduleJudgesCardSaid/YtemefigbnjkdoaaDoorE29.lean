/- Rows of instructions whose elements are written; neighbours exchanged. -/
import Derived.Test.YtemefigbnjkdoaaDoorE16
import Derived.Test.YtemefigbnjkdoaaDoorYx
import Derived.Test.YtemefigbnjkdoaaDoorPo
set_option linter.unusedVariables false
set_option linter.unusedSimpArgs false
namespace Go.Proofs.YtemefigbnjkdoaaDoor
open Go.RowKit

theorem flatI_set : ∀ (l : List Ins) (k : Nat) (i : Ins), (l.set k i).flatMap encI = ((((l.flatMap encI).set (k * 4) i.op).set (k * 4 + 1) i.a).set (k * 4 + 2) i.b).set (k * 4 + 3) i.imm
  | [], k, i => by simp
  | a :: l, 0, i => by simp [encI]
  | a :: l, k + 1, i => by
    rw [List.set_cons_succ, List.flatMap_cons, flatI_set l k i, List.flatMap_cons]
    show _ = (((([a.op, a.a, a.b, a.imm] ++ l.flatMap encI).set ((k + 1) * 4) i.op).set ((k + 1) * 4 + 1) i.a).set ((k + 1) * 4 + 2) i.b).set ((k + 1) * 4 + 3) i.imm
    rw [show (k + 1) * 4 = k * 4 + 1 + 1 + 1 + 1 by omega]
    simp [encI]
theorem swpF_len (y : List Ins) (k : Nat) : (swpF y k).length = y.length := by unfold swpF; simp
theorem OwnIR.block {base : Nat} {w : World} {g n c : Nat} {l : List Ins} (h : OwnIR base w (.slice (some ⟨g, 0, none⟩) n c) l) : base ≤ g ∧ g < w.heap.size := h.1.lt g rfl
theorem OwnIR.len {base : Nat} {w : World} {A : Option Addr} {n c : Nat} {l : List Ins} (h : OwnIR base w (.slice A n c) l) : n = l.length := by
  obtain ⟨A', c', e, -⟩ := own_form h.1
  injection e
theorem OwnIR.put {base : Nat} {w : World} {g n c : Nat} {l : List Ins} (h : OwnIR base w (.slice (some ⟨g, 0, none⟩) n c) l) (k : Nat) {i : Ins} (hi : i.ok) :
    OwnIR base (w.setCells g (k * 4) i.cells) (.slice (some ⟨g, 0, none⟩) n c) (l.set k i) := by
  have e2 := h.len
  subst e2
  have a0 := (h.1.stored (k * 4) (.int .i64 i.op)).1
  have a1 := (a0.stored (k * 4 + 1) (.int .i64 i.a)).1
  have a2 := (a1.stored (k * 4 + 2) (.int .i64 i.b)).1
  have a3 := (a2.stored (k * 4 + 3) (.int .i64 i.imm)).1
  refine ⟨by rw [List.length_set, flatI_set, List.map_set, List.map_set, List.map_set, List.map_set]; exact a3, fun q hq => ?_⟩
  rcases List.mem_or_eq_of_mem_set hq with hq | hq
  · exact h.2 q hq
  · subst hq; exact hi
theorem OwnIR.there {base : Nat} {w : World} {g n c : Nat} {l : List Ins} (h : OwnIR base w (.slice (some ⟨g, 0, none⟩) n c) l) {k : Nat} (hk : k < l.length) : w.there g (k * 4) 4 := by
  have e2 := h.len
  subst e2
  intro j hj
  refine ⟨?_, h.1.frozenAt _⟩
  rw [h.1.cellAt (k * 4 + j) (by omega), flatI_get (List.getElem?_eq_getElem hk) hj]
  show ((l[k].cells)[j]?).isSome = true
  match j, hj with
  | 0, _ | 1, _ | 2, _ | 3, _ => rfl
/-- The store of an instruction into a row of the call's own. -/
theorem st_insR {ops : Array Oper} {rest : List Oper} {o : Oper} {a : Act} {Q : Exit → Act → World → Prop} {w : World} {base g n c k : Nat} {l : List Ins} {i : Ins} (h : OwnIR base w (.slice (some ⟨g, 0, none⟩) n c) l) (hk : k < l.length) (hi : i.ok) (hgd : o.guard = none) (x y : Operand) (ho : o.op = .store 50 x y)
    (hx : a.eval x = .pointer (some (Addr.add ⟨g, 0, none⟩ (k * 4)))) (hy : a.eval y = i.v)
    (hK : ∀ w', OwnIR base w' (.slice (some ⟨g, 0, none⟩) n c) (l.set k i) → w.grownBy w' (some g) → wpList Tryd.prog ops Q rest (a.put o.dst undef) w') : wpList Tryd.prog ops Q (o :: rest) a w := by
  have ea : Addr.add ⟨g, 0, none⟩ (k * 4) = ⟨g, k * 4, none⟩ := by rw [add_noneI rfl]; simp
  rw [ea] at hx
  refine wpList_store_mid hgd 50 x y ho g (k * 4) i.cells.toArray hx hy (h.there hk) size_ins (all_oneCell_toArray (fun v hv => ?_)) ?_
  · obtain ⟨op, a', b', m⟩ := i
    simp [Ins.cells] at hv
    rcases hv with rfl | rfl | rfl | rfl <;> rfl
  · have e2 : i.cells.toArray.toList = i.cells := by simp
    rw [e2]
    exact hK _ (h.put k hi) (sets_grown _ _ _ (grown_refl w (some g)))
/-- The region 'y[k], y[k+1] = y[k+1], y[k]'. -/
theorem swp_get {y : List Ins} {k : Nat} {a b : Ins} (ha : y[k]? = some a) (hb : y[k + 1]? = some b) : (y.set k b).set (k + 1) a = swpF y k := by
  unfold swpF
  rw [getD_of ha, getD_of hb]
end Go.Proofs.YtemefigbnjkdoaaDoor
