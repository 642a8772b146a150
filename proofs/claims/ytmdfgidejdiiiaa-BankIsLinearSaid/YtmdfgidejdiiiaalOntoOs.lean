/- Several texts in one: On Os. -/
import Derived.Test.YtmdfgidejdiiiaalFxtoV1
import Derived.Test.YtmdfgidejdiiiaalV9toU
import Derived.Deep.Grids
set_option linter.unusedVariables false
set_option linter.unusedSimpArgs false
section
set_option maxRecDepth 100000
namespace Go.Proofs.Ytmdfgidejdiiiaa
open Go.Joins Go.ChangeShapes Go.WideShapes Go.RowKit
theorem trod_Ints {H : Type} {enc : TypeId × Value → H} {w : World} {base fuel : Nat} {spare : Nat → Bool} {held : Bool} {v : Value} {y : DataW H × List MemPlace}
    (hf : DataW.trod enc Try.prog w base spare held fuel 33 [v] = some y) :
    ∃ u : Option Addr × Nat × List Int, v = .slice u.1 u.2.2.length u.2.1 ∧ (Ints w u.1 u.2.2 ∧ u.2.2.length ≤ 9223372036854775807) := by
  rcases open_ints Try.underlying33 Try.underlying3 (by kernel_rfl) hf with ⟨hcs, _⟩ | ⟨x, l, c, zs, hcs, _, hl, hm, hz, _, hcell, hwz⟩
  · simp at hcs
    subst hcs
    exact ⟨⟨none, 0, []⟩, rfl, Ints.nil, by simp⟩
  · simp at hcs
    subst hcs
    have hlz : l ≤ zs.length := by rw [hz]; split <;> omega
    have hlen : (zs.take l).length = l := by simp; omega
    refine ⟨⟨some x, c, zs.take l⟩, by rw [hlen], ⟨fun k v hk => ?_, fun y hy => i64_of_wf (hwz y (List.mem_of_mem_take hy))⟩, by rw [hlen]; unfold maxLen at hm; omega⟩
    rw [List.getElem?_map] at hk
    cases hx : (zs.take l)[k]? with
    | none => rw [hx] at hk; cases hk
    | some q =>
      rw [hx] at hk
      simp only [Option.map_some, Option.some.injEq] at hk
      subst hk
      have hkl : k < l := by
        have := (List.getElem?_eq_some_iff.1 hx).1
        omega
      rw [List.getElem?_take_of_lt hkl] at hx
      have hc := hcell k (by omega)
      rw [List.getD_eq_getElem?_getD, hx] at hc
      have hb := cell_lt hc
      rw [block_add] at hb
      exact ⟨x, rfl, hb, hc⟩
end Go.Proofs.Ytmdfgidejdiiiaa
end
section
set_option maxRecDepth 100000
namespace Go.Proofs.Ytmdfgidejdiiiaa
open Go.Joins Go.ChangeShapes Go.WideShapes Go.RowKit Go.Deep
theorem trod_Bools {H : Type} {enc : TypeId × Value → H} {w : World} {base fuel : Nat} {held : Bool} {v : Value} {y : DataW H × List MemPlace}
    (hf : DataW.trod enc Try.prog w base (fun _ => true) held fuel 49 [v] = some y) :
    ∃ u : Option Addr × Nat × List Bool, v = .slice u.1 u.2.2.length u.2.1 ∧ (Bools w u.1 u.2.2 ∧ u.2.2.length ≤ 9223372036854775807) := by
  rcases open_bools Try.underlying49 Try.underlying4 (by kernel_rfl) hf with ⟨hcs, _⟩ | ⟨x, l, c, zs, hcs, _, hl, hm, _, hcell⟩
  · simp at hcs
    subst hcs
    exact ⟨⟨none, 0, []⟩, rfl, fun k v hk => by simp at hk, by simp⟩
  · simp at hcs
    subst hcs
    have hlen : ((List.range l).map zs).length = l := by simp
    refine ⟨⟨some x, c, (List.range l).map zs⟩, by rw [hlen], fun k v hk => ?_, by rw [hlen]; unfold maxLen at hm; omega⟩
    have hkl : k < l := by
      have := (List.getElem?_eq_some_iff.1 hk).1
      simpa using this
    rw [List.getElem?_map, List.getElem?_map, List.getElem?_range hkl] at hk
    simp only [Option.map_some, Option.some.injEq] at hk
    subst hk
    have hc := hcell k (by omega)
    have hb := cell_lt hc
    rw [block_add] at hb
    exact ⟨x, rfl, hb, hc⟩
theorem open_Steps {H : Type} {enc : TypeId × Value → H} {w : World} {base : Nat} {held : Bool} {r : Reach} {b0 : Nat} {v : Value} {d : DataW H} {p : List MemPlace}
    (hv : Value.okWide Try.prog w r b0 51 v) (h : DataW.Trod enc Try.prog w base (fun _ => true) held 51 v d p) :
    ∃ u : (Option Addr × Nat × List Bool) × (Option Addr × Nat × List Int) × (Option Addr × Nat × List Int) × (Option Addr × Nat × List Int), v = stepsV u ∧ StepsAt w u := by
  obtain ⟨c0, c1, c2, c3, y0, y1, y2, y3, m, rfl, rfl, rfl, h0, h1, h2, h3⟩ := open_agg4 Try.underlying51 (by kernel_rfl) (by kernel_rfl) hv h
  obtain ⟨u0, rfl, f0⟩ := trod_Bools h0
  obtain ⟨u1, rfl, f1⟩ := trod_Ints h1
  obtain ⟨u2, rfl, f2⟩ := trod_Ints h2
  obtain ⟨u3, rfl, f3⟩ := trod_Ints h3
  exact ⟨⟨u0, u1, u2, u3⟩, rfl, f0, f1, f2, f3⟩
end Go.Proofs.Ytmdfgidejdiiiaa
end
