/- append(v, s...): a slice of numbers of the call's own takes all elements of another slice. -/
import Derived.Test.YtinjjaahljkhdaaA
import Derived.Maps.AppendAt
namespace Go.Proofs.Ytinjjaahljkhdaa
open Go.RowKit

theorem run_app_ints (w : World) (base : Nat) (ty : TypeId) (v : Value) (l m : List Int) (A : Option Addr) (c : Nat) (hown : Own base w v l) (hI : Ints w A m) (hn : l.length + m.length ≤ 100000000) (hbase : base ≤ w.heap.size) :
    ∃ v' w', (Builtin.append_ #[25, 25] ty #[v, .slice A m.length c]).run Try.prog w = .ok v' w' ∧ Own base w' v' (l ++ m) ∧ w.grownBy w' v.ownBlock ∧ (v'.ownBlock = v.ownBlock ∨ v'.ownBlock = some w.heap.size) := by
  obtain ⟨i0, hi, hz0, hz1, hz2⟩ := info_parts info_int
  have h64 : ∀ x ∈ l ++ m, I64 x := fun x hx => by
    rcases List.mem_append.1 hx with hx | hx
    · exact hown.2 x hx
    · exact hI.2 x hx
  cases A with
  | none =>
    have hm : m = [] := by
      cases m with
      | nil => rfl
      | cons y t => obtain ⟨ad, _, e, _⟩ := hI.at_ (k := 0) (by simp); cases e
    subst hm
    refine ⟨v, w, ?_, by simpa using hown, ⟨rfl, rfl, rfl, Nat.le_refl _, fun _ _ _ => rfl⟩, .inl rfl⟩
    rcases hown.1.2 with ⟨rfl, _⟩ | ⟨g, cap, cur, rfl, _, _, hnc, _⟩
    · simp [Builtin.append_, run_underlying Try.underlying25, sizeOf, typeInfo, hi, Builtin.lenOf, Builtin.firstCells]
    · simp [Builtin.append_, run_underlying Try.underlying25, sizeOf, typeInfo, hi, Builtin.lenOf, Builtin.firstCells, hnc, storeCells]
  | some ad =>
    have hnews : ∀ j u, (m.map (Value.int .i64))[j]? = some u → w.cell? (ad.add j) = some u := fun j u hu => by
      obtain ⟨ad', e, _, h⟩ := hI.1 j u hu
      injection e with e
      rw [e]; exact h
    obtain ⟨v', w', h1, h2, h3, _, h5⟩ := run_append_own_at (P := Try.prog) w base 25 ty 3 i0 (.int .i64 0) 1 8 Try.underlying25 hi hz0 hz1 hz2 rfl (by decide) v l.length _ hown.1 ad m.length c (m.map (Value.int .i64)) (by simp) hnews
      (fun u hu => by obtain ⟨x, _, rfl⟩ := List.mem_map.1 hu; rfl) (by unfold maxLen; omega) (by omega) hbase
    refine ⟨v', w', h1, ⟨?_, h64⟩, h3, h5⟩
    rw [List.map_append, List.length_append]
    exact h2
/-- append(v, s...) in a plain region. -/
theorem app_ints {ops : Array Oper} {rest : List Oper} {o : Oper} {a : Act} {Q : Exit → Act → World → Prop} (w : World) (hg : o.guard = none) (s x : Operand) (ho : o.op = .call { callee := .builtin .append, args := #[s, x], argTypes := #[25, 25] })
    (base : Nat) {v : Value} {l m : List Int} {A : Option Addr} {c : Nat} (hs : a.eval s = v) (hx : a.eval x = .slice A m.length c) (hown : Own base w v l) (hI : Ints w A m) (hn : l.length + m.length ≤ 100000000) (hbase : base ≤ w.heap.size)
    (h : ∀ v' w', Own base w' v' (l ++ m) → w.grownBy w' v.ownBlock → (v'.ownBlock = v.ownBlock ∨ v'.ownBlock = some w.heap.size) → wpList Try.prog ops Q rest (a.put o.dst v') w') : wpList Try.prog ops Q (o :: rest) a w := by
  refine wpList_plain hg fun K hK => ?_
  obtain ⟨v', w', hrun, h1, h2, h3⟩ := run_app_ints w base o.type v l m A c hown hI hn hbase
  unfold Oper.wp execOp
  simp only [ho, resolve, invoke, builtin, Sem.run_bind, Sem.run_pure, Result.andThen_ok, List.map_toArray, List.map_cons, List.map_nil, hs, hx, hrun]
  exact hK _ _ (h v' w' h1 h2 h3)
end Go.Proofs.Ytinjjaahljkhdaa
