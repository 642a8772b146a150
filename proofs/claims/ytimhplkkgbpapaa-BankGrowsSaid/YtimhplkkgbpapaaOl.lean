/- How an argument is opened: a slice of slices of numbers. -/
import Derived.Test.YtimhplkkgbpapaaO
import Derived.Test.YtimhplkkgbpapaaQ
import Derived.Deep.Matrix
set_option maxRecDepth 100000
namespace Go.Proofs.Ytimhplkkgbpapaa
open Go.Joins Go.ChangeShapes Go.WideShapes Go.RowKit Go.Deep

theorem open_IntsL {H : Type} {enc : TypeId × Value → H} {w : World} {base : Nat} {r : Reach} {b0 : Nat} {v : Value} {d : DataW H} {p : List MemPlace}
    (hv : Value.okWide Try.prog w r b0 37 v) (h : DataW.Trod enc Try.prog w base (fun _ => true) true 37 v d p) :
    ∃ u : Option Addr × Nat × List (List Int), v = .slice u.1 u.2.2.length u.2.1 ∧ (IntsL w u.1 u.2.2 ∧ u.2.2.length ≤ 9223372036854775807 ∧ ∀ l ∈ u.2.2, l.length ≤ 9223372036854775807) := by
  obtain ⟨A, len, cap, rfl⟩ := okWide_slice Try.underlying37 hv
  obtain ⟨fuel, hf⟩ := h
  rcases open_int_rows Try.underlying37 Try.underlying23 Try.underlying3 (by kernel_rfl) (by kernel_rfl) hf with ⟨hcs, _⟩ | ⟨x, n, c, AA, L, C, Z, hcs, _, hl, hm, _, hrows⟩
  · simp [Value.cells] at hcs
    obtain ⟨rfl, rfl, rfl⟩ := hcs
    exact ⟨⟨none, 0, []⟩, rfl, IntsL.nil, by simp, by simp⟩
  · simp [Value.cells] at hcs
    obtain ⟨rfl, rfl, rfl⟩ := hcs
    have hzl : ∀ k, k < len → ((Z k).take (L k)).length = L k := fun k hk => by
      obtain ⟨_, g1, _, g3, _⟩ := hrows k (by omega)
      rw [List.length_take]; omega
    refine ⟨⟨some x, cap, (List.range len).map fun k => (Z k).take (L k)⟩, by simp, fun k l hk => ?_, by simp; unfold maxLen at hm; omega, fun l hl' => ?_⟩
    · have hkl : k < len := by
        have := (List.getElem?_eq_some_iff.1 hk).1
        simpa using this
      rw [List.getElem?_map, List.getElem?_range hkl] at hk
      simp only [Option.map_some, Option.some.injEq] at hk
      subst hk
      obtain ⟨g0, g1, g2, g3, g4, g5, g6⟩ := hrows k (by omega)
      have hb := cell_lt g0
      rw [block_add] at hb
      refine ⟨x, AA k, C k, rfl, hb, by rw [hzl k hkl]; exact g0, fun j q hj => ?_, fun y hy => i64_of_wf (g4 y (List.mem_of_mem_take hy))⟩
      rw [List.getElem?_map] at hj
      cases hq : ((Z k).take (L k))[j]? with
      | none => rw [hq] at hj; cases hj
      | some z =>
        rw [hq] at hj
        simp only [Option.map_some, Option.some.injEq] at hj
        subst hj
        have hjl : j < L k := by
          have := (List.getElem?_eq_some_iff.1 hq).1
          rw [hzl k hkl] at this; exact this
        cases hA : AA k with
        | none => have := g5 hA; omega
        | some a' =>
          have hc := (g6 a' hA).2 j (by omega)
          rw [List.getElem?_take_of_lt hjl] at hq
          rw [List.getD_eq_getElem?_getD, hq] at hc
          have hb' := cell_lt hc
          rw [block_add] at hb'
          exact ⟨a', rfl, hb', hc⟩
    · obtain ⟨k, hk, rfl⟩ := List.mem_map.1 hl'
      have hk' := List.mem_range.1 hk
      obtain ⟨_, g1, g2, _⟩ := hrows k (by omega)
      rw [hzl k hk']
      unfold maxLen at g2
      omega
end Go.Proofs.Ytimhplkkgbpapaa
