/- Several texts in one: Yx O2 U5. -/
import Derived.Test.YtgdccmmcjicgkaaDoordJ8
import Derived.OrdersHeld
import Derived.Test.YtgdccmmcjicgkaaDoordAtoU
import Derived.Deep.Slices
import Derived.Lib.SmallJoins
import Derived.Test.YtgdccmmcjicgkaaDoordU3toJ2
set_option linter.unusedVariables false
set_option linter.unusedSimpArgs false
section
namespace Go.Proofs.YtgdccmmcjicgkaaDoor
open Go.RowKit
theorem run_call_fn {P : Program} {f : FuncId} {fn : Func} {ρ : Operand → Value} {o : Oper} {x : Operand} {args : Array Operand} {tys : Array TypeId} (ho : o.op = .call { callee := .value x, args := args, argTypes := tys }) (hx : ρ x = .func (.func f) #[] #[]) (hf : P.funcs[f]? = some fn) (hname : (fn.name == "runtime.NumGoroutine") = false) (hb : fn.body.isSome = true) (w : World) :
    (execOp ρ o).run P w = .ok (.enter f (args.map ρ)) w := by
  have h1 : fn.name ≠ "runtime.NumGoroutine" := by simpa using hname
  obtain ⟨c, hc⟩ := Option.isSome_iff_exists.1 hb
  unfold execOp
  simp only [ho]
  simp [resolve, hx, Deferred.ofValue, invoke, callFunc, hf, h1, hc]
theorem wp_call1 {P : Program} {ops : Array Oper} {rest : List Oper} {Q : Exit → Act → World → Prop} {a : Act} {w : World} {f : FuncId} {fn : Func} {o : Oper} {x : Operand} {args : Array Operand} {tys : Array TypeId} (hf : P.funcs[f]? = some fn) (hname : (fn.name == "runtime.NumGoroutine") = false) (hb : fn.body.isSome = true)
    (hg : o.guard = none) (ho : o.op = .call { callee := .value x, args := args, argTypes := tys }) (hx : a.eval x = .func (.func f) #[] #[]) (vs : Array Value) (hv : args.toList.map a.eval = vs.toList) {R : Ending → World → Prop} (hc : Calls P f vs w R)
    (h : ∀ e w', R e w' → ∃ v, e = .returned v ∧ wpList P ops Q rest (a.put o.dst v) w') : wpList P ops Q (o :: rest) a w := by
  refine wpList_plain hg fun K hK => ?_
  unfold Oper.wp
  have hv2 : args.map a.eval = vs := by
    apply Array.toList_inj.1
    rw [Array.toList_map]; exact hv
  rw [run_call_fn ho hx hf hname hb w, Oper.upon_enter, hv2]
  refine hc.mono fun e w' hr => ?_
  obtain ⟨v, rfl, h1⟩ := h e w' hr
  exact hK _ _ h1
end Go.Proofs.YtgdccmmcjicgkaaDoor
end
section
set_option maxRecDepth 100000
namespace Go.Proofs.YtgdccmmcjicgkaaDoor
open Go.Joins Go.ChangeShapes Go.WideShapes Go.RowKit Go.Deep
theorem get_lt {α : Type} {l : List α} {n i : Nat} (h : l.length = n) (hi : i < n) : ∃ x, l[i]? = some x := ⟨_, List.getElem?_eq_getElem (h ▸ hi)⟩
end Go.Proofs.YtgdccmmcjicgkaaDoor
end
section
namespace Go.Proofs.YtgdccmmcjicgkaaDoor
open Go.RowKit
theorem resC {fn : Func} {t : Tmp} {T : TypeId} (h : fn.results = #[.cell t T]) (tmps : Array Value) (P : Program) (w : World) {g : Nat} {v : Value} (hp : tmps.getD t undef = .pointer (some ⟨g, 0, none⟩)) (hv : (loadVar T ⟨g, 0, none⟩).run P w = .ok v w) : (results fn tmps).run P w = .ok v w := by
  have hp' : tmps[t]?.getD undef = .pointer (some ⟨g, 0, none⟩) := by rw [← Array.getD_eq_getD_getElem?]; exact hp
  simp [results, h, hp', hv, asAddr]
theorem resCT {fn : Func} {t x : Tmp} {T : TypeId} (h : fn.results = #[.cell t T, .tmp x]) (tmps : Array Value) (P : Program) (w : World) {g : Nat} {v : Value} (hp : tmps.getD t undef = .pointer (some ⟨g, 0, none⟩)) (hv : (loadVar T ⟨g, 0, none⟩).run P w = .ok v w) : (results fn tmps).run P w = .ok (.tuple #[v, tmps.getD x undef]) w := by
  have hp' : tmps[t]?.getD undef = .pointer (some ⟨g, 0, none⟩) := by rw [← Array.getD_eq_getD_getElem?]; exact hp
  simp [results, h, hp', hv, asAddr]
theorem resTCTT {fn : Func} {t x y z : Tmp} {T : TypeId} (h : fn.results = #[.tmp x, .cell t T, .tmp y, .tmp z]) (tmps : Array Value) (P : Program) (w : World) {g : Nat} {v : Value} (hp : tmps.getD t undef = .pointer (some ⟨g, 0, none⟩)) (hv : (loadVar T ⟨g, 0, none⟩).run P w = .ok v w) : (results fn tmps).run P w = .ok (.tuple #[tmps.getD x undef, v, tmps.getD y undef, tmps.getD z undef]) w := by
  have hp' : tmps[t]?.getD undef = .pointer (some ⟨g, 0, none⟩) := by rw [← Array.getD_eq_getD_getElem?]; exact hp
  simp [results, h, hp', hv, asAddr]
theorem res_box {w : World} {g : Nat} {cs : List Value} (ty : TypeId) (hb : Box w g cs) (d : TypeDesc) (hu : Tryd.prog.underlying ty = some d) (hd : d.isRow = true) (hi : (Tryd.prog.info? ty).map (·.size) = some cs.length) : (loadVar ty ⟨g, 0, none⟩).run Tryd.prog w = .ok (.agg cs.toArray) w :=
  run_loadVar_mid w g 0 _ cs d (hb.range (fun j v h => by rw [Nat.zero_add]; exact h)) hu hd hi
end Go.Proofs.YtgdccmmcjicgkaaDoor
end
