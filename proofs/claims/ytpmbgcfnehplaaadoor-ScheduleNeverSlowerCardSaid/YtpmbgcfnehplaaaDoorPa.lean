/- Several texts in one: Yx E29. -/
import Derived.Test.YtpmbgcfnehplaaaDoorPu
import Derived.OrdersHeld
import Derived.Test.YtpmbgcfnehplaaaDoorE16
import Derived.Test.YtpmbgcfnehplaaaDoorPy
section
/- Operations of a drawn region taken one by one: one that alone may come up, and two. -/
set_option linter.unusedVariables false
set_option linter.unusedSimpArgs false
namespace Go.Proofs.YtpmbgcfnehplaaaDoor
open Go.RowKit

theorem anyX_one {P : Program} {md : Region.Mode} {ops : Array Oper} {Q : Exit → Act → World → Prop} {S : World → Prop} {fuel : Nat} {listed : Array Bool} {a : Act} {w : World} {i : Nat} {o : Oper} (hi : ops[i]? = some o) (hr : Region.ready md ops listed = [i]) (hg : o.guard = none) (hs : ∀ cs b, o.op ≠ .select cs b) (hd : ∀ d, o.dst = some d → d < a.tmps.size)
    (h : wpList P #[o] (fun e c w' => e = .normal ∧ ∃ v, c = a.put o.dst v ∧ (S w' ∧ wpAnyH P md ops Q S fuel (listed.setIfInBounds i true) (a.put o.dst v) w')) [o] a w) : wpAnyH P md ops Q S (fuel + 1) listed a w := by
  refine wpAnyH_all hr (by simp) fun j hj => ?_
  obtain rfl := List.mem_singleton.1 hj
  unfold wpOp
  have hw : Region.wanted o (yielded ops a.tmps) = true := by simp [Region.wanted, hg]
  simp only [hi, hw, if_true]
  exact .inl (wp_move_frame hg hs ⟨rfl, fun _ _ => rfl⟩ hd h (fun v w' h => h))
theorem anyX_two {P : Program} {md : Region.Mode} {ops : Array Oper} {Q : Exit → Act → World → Prop} {S : World → Prop} {fuel : Nat} {listed : Array Bool} {a : Act} {w : World} {i j : Nat} {o p : Oper} (hi : ops[i]? = some o) (hj : ops[j]? = some p) (hr : Region.ready md ops listed = [i, j]) (hg : o.guard = none) (hg' : p.guard = none) (hs : ∀ cs b, o.op ≠ .select cs b) (hs' : ∀ cs b, p.op ≠ .select cs b) (hd : ∀ d, o.dst = some d → d < a.tmps.size) (hd' : ∀ d, p.dst = some d → d < a.tmps.size)
    (h : wpList P #[o] (fun e c w' => e = .normal ∧ ∃ v, c = a.put o.dst v ∧ (S w' ∧ wpAnyH P md ops Q S fuel (listed.setIfInBounds i true) (a.put o.dst v) w')) [o] a w)
    (h' : wpList P #[p] (fun e c w' => e = .normal ∧ ∃ v, c = a.put p.dst v ∧ (S w' ∧ wpAnyH P md ops Q S fuel (listed.setIfInBounds j true) (a.put p.dst v) w')) [p] a w) : wpAnyH P md ops Q S (fuel + 1) listed a w := by
  refine wpAnyH_all hr (by simp) fun k hk => ?_
  rcases List.mem_cons.1 hk with rfl | hk
  · unfold wpOp
    have hw : Region.wanted o (yielded ops a.tmps) = true := by simp [Region.wanted, hg]
    simp only [hi, hw, if_true]
    exact .inl (wp_move_frame hg hs ⟨rfl, fun _ _ => rfl⟩ hd h (fun v w' h => h))
  · obtain rfl := List.mem_singleton.1 hk
    unfold wpOp
    have hw : Region.wanted p (yielded ops a.tmps) = true := by simp [Region.wanted, hg']
    simp only [hj, hw, if_true]
    exact .inl (wp_move_frame hg' hs' ⟨rfl, fun _ _ => rfl⟩ hd' h' (fun v w' h => h))
/-- A call of a function of the program, by its operands. -/
theorem run_call_fn {P : Program} {f : FuncId} {fn : Func} {ρ : Operand → Value} {o : Oper} {x : Operand} {args : Array Operand} {tys : Array TypeId} (ho : o.op = .call { callee := .value x, args := args, argTypes := tys }) (hx : ρ x = .func (.func f) #[] #[]) (hf : P.funcs[f]? = some fn) (hname : (fn.name == "runtime.NumGoroutine") = false) (hb : fn.body.isSome = true) (w : World) :
    (execOp ρ o).run P w = .ok (.enter f (args.map ρ)) w := by
  have h1 : fn.name ≠ "runtime.NumGoroutine" := by simpa using hname
  obtain ⟨c, hc⟩ := Option.isSome_iff_exists.1 hb
  unfold execOp
  simp only [ho]
  simp [resolve, hx, Deferred.ofValue, invoke, callFunc, hf, h1, hc]
theorem wp_call1 {P : Program} {ops : Array Oper} {rest : List Oper} {Q : Exit → Act → World → Prop} {a : Act} {w : World} {f : FuncId} {fn : Func} {o : Oper} {x : Operand} {args : Array Operand} {tys : Array TypeId} (hf : P.funcs[f]? = some fn) (hname : (fn.name == "runtime.NumGoroutine") = false) (hb : fn.body.isSome = true)
    (hg : o.guard = none) (ho : o.op = .call { callee := .value x, args := args, argTypes := tys }) (hx : a.eval x = .func (.func f) #[] #[]) (vs : Array Value) (hv : args.toList.map a.eval = vs.toList) {R : Ending → World → Prop} (hc : Calls P f vs w R)
    (h : ∀ e w', R e w' → ∃ v, e = .returned v ∧ wpList P ops Q rest (a.put o.dst v) w') : wpList P ops Q (o :: rest) a w := by
  refine wpList_plain hg fun K hK => ?_
  unfold Oper.wp
  have hv2 : args.map a.eval = vs := by
    apply Array.toList_inj.1
    rw [Array.toList_map]; exact hv
  rw [run_call_fn ho hx hf hname hb w, Oper.upon_enter, hv2]
  refine hc.mono fun e w' hr => ?_
  obtain ⟨v, rfl, h1⟩ := h e w' hr
  exact hK _ _ h1
end Go.Proofs.YtpmbgcfnehplaaaDoor
end
section
/- Rows of instructions whose elements are written; neighbours exchanged. -/
set_option linter.unusedVariables false
set_option linter.unusedSimpArgs false
namespace Go.Proofs.YtpmbgcfnehplaaaDoor
open Go.RowKit

theorem flatI_set : ∀ (l : List Ins) (k : Nat) (i : Ins), (l.set k i).flatMap encI = ((((l.flatMap encI).set (k * 4) i.op).set (k * 4 + 1) i.a).set (k * 4 + 2) i.b).set (k * 4 + 3) i.imm
  | [], k, i => by simp
  | a :: l, 0, i => by simp [encI]
  | a :: l, k + 1, i => by
    rw [List.set_cons_succ, List.flatMap_cons, flatI_set l k i, List.flatMap_cons]
    show _ = (((([a.op, a.a, a.b, a.imm] ++ l.flatMap encI).set ((k + 1) * 4) i.op).set ((k + 1) * 4 + 1) i.a).set ((k + 1) * 4 + 2) i.b).set ((k + 1) * 4 + 3) i.imm
    rw [show (k + 1) * 4 = k * 4 + 1 + 1 + 1 + 1 by omega]
    simp [encI]
theorem swpF_len (y : List Ins) (k : Nat) : (swpF y k).length = y.length := by unfold swpF; simp
theorem OwnIR.block {base : Nat} {w : World} {g n c : Nat} {l : List Ins} (h : OwnIR base w (.slice (some ⟨g, 0, none⟩) n c) l) : base ≤ g ∧ g < w.heap.size := h.1.lt g rfl
theorem OwnIR.len {base : Nat} {w : World} {A : Option Addr} {n c : Nat} {l : List Ins} (h : OwnIR base w (.slice A n c) l) : n = l.length := by
  obtain ⟨A', c', e, -⟩ := own_form h.1
  injection e
theorem OwnIR.put {base : Nat} {w : World} {g n c : Nat} {l : List Ins} (h : OwnIR base w (.slice (some ⟨g, 0, none⟩) n c) l) (k : Nat) {i : Ins} (hi : i.ok) :
    OwnIR base (w.setCells g (k * 4) i.cells) (.slice (some ⟨g, 0, none⟩) n c) (l.set k i) := by
  have e2 := h.len
  subst e2
  have a0 := (h.1.stored (k * 4) (.int .i64 i.op)).1
  have a1 := (a0.stored (k * 4 + 1) (.int .i64 i.a)).1
  have a2 := (a1.stored (k * 4 + 2) (.int .i64 i.b)).1
  have a3 := (a2.stored (k * 4 + 3) (.int .i64 i.imm)).1
  refine ⟨by rw [List.length_set, flatI_set, List.map_set, List.map_set, List.map_set, List.map_set]; exact a3, fun q hq => ?_⟩
  rcases List.mem_or_eq_of_mem_set hq with hq | hq
  · exact h.2 q hq
  · subst hq; exact hi
theorem OwnIR.there {base : Nat} {w : World} {g n c : Nat} {l : List Ins} (h : OwnIR base w (.slice (some ⟨g, 0, none⟩) n c) l) {k : Nat} (hk : k < l.length) : w.there g (k * 4) 4 := by
  have e2 := h.len
  subst e2
  intro j hj
  refine ⟨?_, h.1.frozenAt _⟩
  rw [h.1.cellAt (k * 4 + j) (by omega), flatI_get (List.getElem?_eq_getElem hk) hj]
  show ((l[k].cells)[j]?).isSome = true
  match j, hj with
  | 0, _ | 1, _ | 2, _ | 3, _ => rfl
/-- The store of an instruction into a row of the call's own. -/
theorem st_insR {ops : Array Oper} {rest : List Oper} {o : Oper} {a : Act} {Q : Exit → Act → World → Prop} {w : World} {base g n c k : Nat} {l : List Ins} {i : Ins} (h : OwnIR base w (.slice (some ⟨g, 0, none⟩) n c) l) (hk : k < l.length) (hi : i.ok) (hgd : o.guard = none) (x y : Operand) (ho : o.op = .store 48 x y)
    (hx : a.eval x = .pointer (some (Addr.add ⟨g, 0, none⟩ (k * 4)))) (hy : a.eval y = i.v)
    (hK : ∀ w', OwnIR base w' (.slice (some ⟨g, 0, none⟩) n c) (l.set k i) → w.grownBy w' (some g) → wpList Tryd.prog ops Q rest (a.put o.dst undef) w') : wpList Tryd.prog ops Q (o :: rest) a w := by
  have ea : Addr.add ⟨g, 0, none⟩ (k * 4) = ⟨g, k * 4, none⟩ := by rw [add_noneI rfl]; simp
  rw [ea] at hx
  refine wpList_store_mid hgd 48 x y ho g (k * 4) i.cells.toArray hx hy (h.there hk) size_ins (all_oneCell_toArray (fun v hv => ?_)) ?_
  · obtain ⟨op, a', b', m⟩ := i
    simp [Ins.cells] at hv
    rcases hv with rfl | rfl | rfl | rfl <;> rfl
  · have e2 : i.cells.toArray.toList = i.cells := by simp
    rw [e2]
    exact hK _ (h.put k hi) (sets_grown _ _ _ (grown_refl w (some g)))
/-- The region 'y[k], y[k+1] = y[k+1], y[k]'. -/
theorem swp_get {y : List Ins} {k : Nat} {a b : Ins} (ha : y[k]? = some a) (hb : y[k + 1]? = some b) : (y.set k b).set (k + 1) a = swpF y k := by
  unfold swpF
  rw [getD_of ha, getD_of hb]
end Go.Proofs.YtpmbgcfnehplaaaDoor
end
