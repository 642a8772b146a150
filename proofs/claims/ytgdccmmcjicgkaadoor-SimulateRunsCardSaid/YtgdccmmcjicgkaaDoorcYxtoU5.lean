/- Several texts in one: Yx E29 O2 On U5. -/
import Derived.Test.YtgdccmmcjicgkaaDoorcJ8
import Derived.OrdersHeld
import Derived.Test.YtgdccmmcjicgkaaDoorcE15toC
import Derived.Test.YtgdccmmcjicgkaaDoorcE23toE18
import Derived.Test.YtgdccmmcjicgkaaDoorcFztoO
import Derived.Deep.Slices
import Derived.Lib.SmallJoins
import Derived.Test.YtgdccmmcjicgkaaDoorcV1toU3
set_option linter.unusedVariables false
set_option linter.unusedSimpArgs false
section
namespace Go.Proofs.YtgdccmmcjicgkaaDoor
open Go.RowKit
theorem anyX_one {P : Program} {md : Region.Mode} {ops : Array Oper} {Q : Exit → Act → World → Prop} {S : World → Prop} {fuel : Nat} {listed : Array Bool} {a : Act} {w : World} {i : Nat} {o : Oper} (hi : ops[i]? = some o) (hr : Region.ready md ops listed = [i]) (hg : o.guard = none) (hs : ∀ cs b, o.op ≠ .select cs b) (hd : ∀ d, o.dst = some d → d < a.tmps.size)
    (h : wpList P #[o] (fun e c w' => e = .normal ∧ ∃ v, c = a.put o.dst v ∧ (S w' ∧ wpAnyH P md ops Q S fuel (listed.setIfInBounds i true) (a.put o.dst v) w')) [o] a w) : wpAnyH P md ops Q S (fuel + 1) listed a w := by
  refine wpAnyH_all hr (by simp) fun j hj => ?_
  obtain rfl := List.mem_singleton.1 hj
  unfold wpOp
  have hw : Region.wanted o (yielded ops a.tmps) = true := by simp [Region.wanted, hg]
  simp only [hi, hw, if_true]
  exact .inl (wp_move_frame hg hs ⟨rfl, fun _ _ => rfl⟩ hd h (fun v w' h => h))
theorem run_call_fn {P : Program} {f : FuncId} {fn : Func} {ρ : Operand → Value} {o : Oper} {x : Operand} {args : Array Operand} {tys : Array TypeId} (ho : o.op = .call { callee := .value x, args := args, argTypes := tys }) (hx : ρ x = .func (.func f) #[] #[]) (hf : P.funcs[f]? = some fn) (hname : (fn.name == "runtime.NumGoroutine") = false) (hb : fn.body.isSome = true) (w : World) :
    (execOp ρ o).run P w = .ok (.enter f (args.map ρ)) w := by
  have h1 : fn.name ≠ "runtime.NumGoroutine" := by simpa using hname
  obtain ⟨c, hc⟩ := Option.isSome_iff_exists.1 hb
  unfold execOp
  simp only [ho]
  simp [resolve, hx, Deferred.ofValue, invoke, callFunc, hf, h1, hc]
theorem wp_call1 {P : Program} {ops : Array Oper} {rest : List Oper} {Q : Exit → Act → World → Prop} {a : Act} {w : World} {f : FuncId} {fn : Func} {o : Oper} {x : Operand} {args : Array Operand} {tys : Array TypeId} (hf : P.funcs[f]? = some fn) (hname : (fn.name == "runtime.NumGoroutine") = false) (hb : fn.body.isSome = true)
    (hg : o.guard = none) (ho : o.op = .call { callee := .value x, args := args, argTypes := tys }) (hx : a.eval x = .func (.func f) #[] #[]) (vs : Array Value) (hv : args.toList.map a.eval = vs.toList) {R : Ending → World → Prop} (hc : Calls P f vs w R)
    (h : ∀ e w', R e w' → ∃ v, e = .returned v ∧ wpList P ops Q rest (a.put o.dst v) w') : wpList P ops Q (o :: rest) a w := by
  refine wpList_plain hg fun K hK => ?_
  unfold Oper.wp
  have hv2 : args.map a.eval = vs := by
    apply Array.toList_inj.1
    rw [Array.toList_map]; exact hv
  rw [run_call_fn ho hx hf hname hb w, Oper.upon_enter, hv2]
  refine hc.mono fun e w' hr => ?_
  obtain ⟨v, rfl, h1⟩ := h e w' hr
  exact hK _ _ h1
end Go.Proofs.YtgdccmmcjicgkaaDoor
end
section
namespace Go.Proofs.YtgdccmmcjicgkaaDoor
open Go.RowKit
theorem flatI_set : ∀ (l : List Ins) (k : Nat) (i : Ins), (l.set k i).flatMap encI = ((((l.flatMap encI).set (k * 4) i.op).set (k * 4 + 1) i.a).set (k * 4 + 2) i.b).set (k * 4 + 3) i.imm
  | [], k, i => by simp
  | a :: l, 0, i => by simp [encI]
  | a :: l, k + 1, i => by
    rw [List.set_cons_succ, List.flatMap_cons, flatI_set l k i, List.flatMap_cons]
    show _ = (((([a.op, a.a, a.b, a.imm] ++ l.flatMap encI).set ((k + 1) * 4) i.op).set ((k + 1) * 4 + 1) i.a).set ((k + 1) * 4 + 2) i.b).set ((k + 1) * 4 + 3) i.imm
    rw [show (k + 1) * 4 = k * 4 + 1 + 1 + 1 + 1 by omega]
    simp [encI]
theorem OwnIR.block {base : Nat} {w : World} {g n c : Nat} {l : List Ins} (h : OwnIR base w (.slice (some ⟨g, 0, none⟩) n c) l) : base ≤ g ∧ g < w.heap.size := h.1.lt g rfl
theorem OwnIR.len {base : Nat} {w : World} {A : Option Addr} {n c : Nat} {l : List Ins} (h : OwnIR base w (.slice A n c) l) : n = l.length := by
  obtain ⟨A', c', e, -⟩ := own_form h.1
  injection e
theorem OwnIR.put {base : Nat} {w : World} {g n c : Nat} {l : List Ins} (h : OwnIR base w (.slice (some ⟨g, 0, none⟩) n c) l) (k : Nat) {i : Ins} (hi : i.ok) :
    OwnIR base (w.setCells g (k * 4) i.cells) (.slice (some ⟨g, 0, none⟩) n c) (l.set k i) := by
  have e2 := h.len
  subst e2
  have a0 := (h.1.stored (k * 4) (.int .i64 i.op)).1
  have a1 := (a0.stored (k * 4 + 1) (.int .i64 i.a)).1
  have a2 := (a1.stored (k * 4 + 2) (.int .i64 i.b)).1
  have a3 := (a2.stored (k * 4 + 3) (.int .i64 i.imm)).1
  refine ⟨by rw [List.length_set, flatI_set, List.map_set, List.map_set, List.map_set, List.map_set]; exact a3, fun q hq => ?_⟩
  rcases List.mem_or_eq_of_mem_set hq with hq | hq
  · exact h.2 q hq
  · subst hq; exact hi
theorem OwnIR.there {base : Nat} {w : World} {g n c : Nat} {l : List Ins} (h : OwnIR base w (.slice (some ⟨g, 0, none⟩) n c) l) {k : Nat} (hk : k < l.length) : w.there g (k * 4) 4 := by
  have e2 := h.len
  subst e2
  intro j hj
  refine ⟨?_, h.1.frozenAt _⟩
  rw [h.1.cellAt (k * 4 + j) (by omega), flatI_get (List.getElem?_eq_getElem hk) hj]
  show ((l[k].cells)[j]?).isSome = true
  match j, hj with
  | 0, _ | 1, _ | 2, _ | 3, _ => rfl
end Go.Proofs.YtgdccmmcjicgkaaDoor
end
section
set_option maxRecDepth 100000
namespace Go.Proofs.YtgdccmmcjicgkaaDoor
open Go.Joins Go.ChangeShapes Go.WideShapes Go.RowKit Go.Deep
theorem get_lt {α : Type} {l : List α} {n i : Nat} (h : l.length = n) (hi : i < n) : ∃ x, l[i]? = some x := ⟨_, List.getElem?_eq_getElem (h ▸ hi)⟩
end Go.Proofs.YtgdccmmcjicgkaaDoor
end
section
set_option maxRecDepth 100000
namespace Go.Proofs.YtgdccmmcjicgkaaDoor
open Go.Joins Go.ChangeShapes Go.WideShapes Go.RowKit
theorem trod_Ints {H : Type} {enc : TypeId × Value → H} {w : World} {base fuel : Nat} {spare : Nat → Bool} {held : Bool} {v : Value} {y : DataW H × List MemPlace}
    (hf : DataW.trod enc Tryd.prog w base spare held fuel 32 [v] = some y) :
    ∃ u : Option Addr × Nat × List Int, v = .slice u.1 u.2.2.length u.2.1 ∧ (Ints w u.1 u.2.2 ∧ u.2.2.length ≤ 9223372036854775807) := by
  rcases open_ints Tryd.underlying32 Tryd.underlying3 (by kernel_rfl) hf with ⟨hcs, _⟩ | ⟨x, l, c, zs, hcs, _, hl, hm, hz, _, hcell, hwz⟩
  · simp at hcs
    subst hcs
    exact ⟨⟨none, 0, []⟩, rfl, Ints.nil, by simp⟩
  · simp at hcs
    subst hcs
    have hlz : l ≤ zs.length := by rw [hz]; split <;> omega
    have hlen : (zs.take l).length = l := by simp; omega
    refine ⟨⟨some x, c, zs.take l⟩, by rw [hlen], ⟨fun k v hk => ?_, fun y hy => i64_of_wf (hwz y (List.mem_of_mem_take hy))⟩, by rw [hlen]; unfold maxLen at hm; omega⟩
    rw [List.getElem?_map] at hk
    cases hx : (zs.take l)[k]? with
    | none => rw [hx] at hk; cases hk
    | some q =>
      rw [hx] at hk
      simp only [Option.map_some, Option.some.injEq] at hk
      subst hk
      have hkl : k < l := by
        have := (List.getElem?_eq_some_iff.1 hx).1
        omega
      rw [List.getElem?_take_of_lt hkl] at hx
      have hc := hcell k (by omega)
      rw [List.getD_eq_getElem?_getD, hx] at hc
      have hb := cell_lt hc
      rw [block_add] at hb
      exact ⟨x, rfl, hb, hc⟩
end Go.Proofs.YtgdccmmcjicgkaaDoor
end
section
namespace Go.Proofs.YtgdccmmcjicgkaaDoor
open Go.RowKit
theorem resC {fn : Func} {t : Tmp} {T : TypeId} (h : fn.results = #[.cell t T]) (tmps : Array Value) (P : Program) (w : World) {g : Nat} {v : Value} (hp : tmps.getD t undef = .pointer (some ⟨g, 0, none⟩)) (hv : (loadVar T ⟨g, 0, none⟩).run P w = .ok v w) : (results fn tmps).run P w = .ok v w := by
  have hp' : tmps[t]?.getD undef = .pointer (some ⟨g, 0, none⟩) := by rw [← Array.getD_eq_getD_getElem?]; exact hp
  simp [results, h, hp', hv, asAddr]
theorem resCTTT {fn : Func} {t x y z : Tmp} {T : TypeId} (h : fn.results = #[.cell t T, .tmp x, .tmp y, .tmp z]) (tmps : Array Value) (P : Program) (w : World) {g : Nat} {v : Value} (hp : tmps.getD t undef = .pointer (some ⟨g, 0, none⟩)) (hv : (loadVar T ⟨g, 0, none⟩).run P w = .ok v w) : (results fn tmps).run P w = .ok (.tuple #[v, tmps.getD x undef, tmps.getD y undef, tmps.getD z undef]) w := by
  have hp' : tmps[t]?.getD undef = .pointer (some ⟨g, 0, none⟩) := by rw [← Array.getD_eq_getD_getElem?]; exact hp
  simp [results, h, hp', hv, asAddr]
theorem resTCTT {fn : Func} {t x y z : Tmp} {T : TypeId} (h : fn.results = #[.tmp x, .cell t T, .tmp y, .tmp z]) (tmps : Array Value) (P : Program) (w : World) {g : Nat} {v : Value} (hp : tmps.getD t undef = .pointer (some ⟨g, 0, none⟩)) (hv : (loadVar T ⟨g, 0, none⟩).run P w = .ok v w) : (results fn tmps).run P w = .ok (.tuple #[tmps.getD x undef, v, tmps.getD y undef, tmps.getD z undef]) w := by
  have hp' : tmps[t]?.getD undef = .pointer (some ⟨g, 0, none⟩) := by rw [← Array.getD_eq_getD_getElem?]; exact hp
  simp [results, h, hp', hv, asAddr]
theorem res_box {w : World} {g : Nat} {cs : List Value} (ty : TypeId) (hb : Box w g cs) (d : TypeDesc) (hu : Tryd.prog.underlying ty = some d) (hd : d.isRow = true) (hi : (Tryd.prog.info? ty).map (·.size) = some cs.length) : (loadVar ty ⟨g, 0, none⟩).run Tryd.prog w = .ok (.agg cs.toArray) w :=
  run_loadVar_mid w g 0 _ cs d (hb.range (fun j v h => by rw [Nat.zero_add]; exact h)) hu hd hi
theorem own_und {w w' : World} {base n size b : Nat} {e : TypeId} {v : Value} {xs : List Value} (h : w.ownsRow base e size v n xs) (hb : Below b w w') (hv : ∀ q, v.ownBlock = some q → q < b) : w'.ownsRow base e size v n xs := by
  obtain ⟨h1, h2 | ⟨g, cap, cur, hv', hg, hh, r⟩⟩ := h
  · exact ⟨h1, .inl h2⟩
  · have hlt : g < b := hv g (by rw [hv']; rfl)
    exact ⟨h1, .inr ⟨g, cap, cur, hv', hg, (hb.block g hlt).trans hh, r⟩⟩
end Go.Proofs.YtgdccmmcjicgkaaDoor
end
