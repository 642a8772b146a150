/- How an argument is opened: lifting steps in numbers. -/
import Derived.Test.YtimhplkkgbpapaaOn
import Derived.Test.YtimhplkkgbpapaaVb
import Derived.Deep.Grids
set_option maxRecDepth 100000
namespace Go.Proofs.Ytimhplkkgbpapaa
open Go.Joins Go.ChangeShapes Go.WideShapes Go.RowKit Go.Deep

theorem trod_Bools {H : Type} {enc : TypeId × Value → H} {w : World} {base fuel : Nat} {held : Bool} {v : Value} {y : DataW H × List MemPlace}
    (hf : DataW.trod enc Try.prog w base (fun _ => true) held fuel 22 [v] = some y) :
    ∃ u : Option Addr × Nat × List Bool, v = .slice u.1 u.2.2.length u.2.1 ∧ (Bools w u.1 u.2.2 ∧ u.2.2.length ≤ 9223372036854775807) := by
  rcases open_bools Try.underlying22 Try.underlying4 (by kernel_rfl) hf with ⟨hcs, _⟩ | ⟨x, l, c, zs, hcs, _, hl, hm, _, hcell⟩
  · simp at hcs
    subst hcs
    exact ⟨⟨none, 0, []⟩, rfl, fun k v hk => by simp at hk, by simp⟩
  · simp at hcs
    subst hcs
    have hlen : ((List.range l).map zs).length = l := by simp
    refine ⟨⟨some x, c, (List.range l).map zs⟩, by rw [hlen], fun k v hk => ?_, by rw [hlen]; unfold maxLen at hm; omega⟩
    have hkl : k < l := by
      have := (List.getElem?_eq_some_iff.1 hk).1
      simpa using this
    rw [List.getElem?_map, List.getElem?_map, List.getElem?_range hkl] at hk
    simp only [Option.map_some, Option.some.injEq] at hk
    subst hk
    have hc := hcell k (by omega)
    have hb := cell_lt hc
    rw [block_add] at hb
    exact ⟨x, rfl, hb, hc⟩
theorem open_Steps {H : Type} {enc : TypeId × Value → H} {w : World} {base : Nat} {held : Bool} {r : Reach} {b0 : Nat} {v : Value} {d : DataW H} {p : List MemPlace}
    (hv : Value.okWide Try.prog w r b0 25 v) (h : DataW.Trod enc Try.prog w base (fun _ => true) held 25 v d p) :
    ∃ u : (Option Addr × Nat × List Bool) × (Option Addr × Nat × List Int) × (Option Addr × Nat × List Int) × (Option Addr × Nat × List Int), v = stepsV u ∧ StepsAt w u := by
  obtain ⟨c0, c1, c2, c3, y0, y1, y2, y3, m, rfl, rfl, rfl, h0, h1, h2, h3⟩ := open_agg4 Try.underlying25 (by kernel_rfl) (by kernel_rfl) hv h
  obtain ⟨u0, rfl, f0⟩ := trod_Bools h0
  obtain ⟨u1, rfl, f1⟩ := trod_Ints h1
  obtain ⟨u2, rfl, f2⟩ := trod_Ints h2
  obtain ⟨u3, rfl, f3⟩ := trod_Ints h3
  exact ⟨⟨u0, u1, u2, u3⟩, rfl, f0, f1, f2, f3⟩
end Go.Proofs.Ytimhplkkgbpapaa
