/- Several texts in one: On Olf. -/
import Derived.Test.YtmdfgidejdiiiaadFxtoV1
import Derived.Deep.Matrix
import Derived.Test.YtmdfgidejdiiiaadZstoV3
import Derived.Deep.Slices
import Derived.Lib.SmallJoins
set_option linter.unusedVariables false
set_option linter.unusedSimpArgs false
section
set_option maxRecDepth 100000
namespace Go.Proofs.Ytmdfgidejdiiiaa
open Go.Joins Go.ChangeShapes Go.WideShapes Go.RowKit
theorem trod_Ints {H : Type} {enc : TypeId × Value → H} {w : World} {base fuel : Nat} {spare : Nat → Bool} {held : Bool} {v : Value} {y : DataW H × List MemPlace}
    (hf : DataW.trod enc Try.prog w base spare held fuel 33 [v] = some y) :
    ∃ u : Option Addr × Nat × List Int, v = .slice u.1 u.2.2.length u.2.1 ∧ (Ints w u.1 u.2.2 ∧ u.2.2.length ≤ 9223372036854775807) := by
  rcases open_ints Try.underlying33 Try.underlying3 (by kernel_rfl) hf with ⟨hcs, _⟩ | ⟨x, l, c, zs, hcs, _, hl, hm, hz, _, hcell, hwz⟩
  · simp at hcs
    subst hcs
    exact ⟨⟨none, 0, []⟩, rfl, Ints.nil, by simp⟩
  · simp at hcs
    subst hcs
    have hlz : l ≤ zs.length := by rw [hz]; split <;> omega
    have hlen : (zs.take l).length = l := by simp; omega
    refine ⟨⟨some x, c, zs.take l⟩, by rw [hlen], ⟨fun k v hk => ?_, fun y hy => i64_of_wf (hwz y (List.mem_of_mem_take hy))⟩, by rw [hlen]; unfold maxLen at hm; omega⟩
    rw [List.getElem?_map] at hk
    cases hx : (zs.take l)[k]? with
    | none => rw [hx] at hk; cases hk
    | some q =>
      rw [hx] at hk
      simp only [Option.map_some, Option.some.injEq] at hk
      subst hk
      have hkl : k < l := by
        have := (List.getElem?_eq_some_iff.1 hx).1
        omega
      rw [List.getElem?_take_of_lt hkl] at hx
      have hc := hcell k (by omega)
      rw [List.getD_eq_getElem?_getD, hx] at hc
      have hb := cell_lt hc
      rw [block_add] at hb
      exact ⟨x, rfl, hb, hc⟩
end Go.Proofs.Ytmdfgidejdiiiaa
end
section
set_option maxRecDepth 100000
namespace Go.Proofs.Ytmdfgidejdiiiaa
open Go.Joins Go.ChangeShapes Go.WideShapes Go.RowKit Go.Deep
theorem trod_Lift {H : Type} {enc : TypeId × Value → H} {w : World} {base n : Nat} {a : Addr} {cs : List Value} {y : DataW H × List MemPlace}
    (hc : w.cells? base a 4 = some cs) (h : DataW.trod enc Try.prog w base (fun _ => true) true n 64 cs = some y) :
    ∃ (s : Lft) (C : Option Addr) (c : Nat), a.block < w.heap.size ∧ w.cell? a = some (.bool s.1) ∧ w.cell? ⟨a.block, a.off + 1, none⟩ = some (.int .i64 s.2.1) ∧ w.cell? ⟨a.block, a.off + 2, none⟩ = some (.slice C s.2.2.1.length c) ∧
      w.cell? ⟨a.block, a.off + 3, none⟩ = some (.int .i64 s.2.2.2) ∧ Ints w C s.2.2.1 ∧ I64 s.2.1 ∧ I64 s.2.2.2 ∧ s.2.2.1.length ≤ 9223372036854775807 := by
  obtain ⟨_, hlen, hcell⟩ := World.cells?_some hc
  have hb := World.cells?_block hc (by decide)
  obtain ⟨y0, y1, y2, y3, k, _, _, h0, h1, h2, h3⟩ := trod_struct4 Try.underlying64 h
  have k1 : Try.prog.cellsOf 4 = 1 := by kernel_rfl
  have k2 : Try.prog.cellsOf 3 = 1 := by kernel_rfl
  have k3 : Try.prog.cellsOf 33 = 1 := by kernel_rfl
  match cs, hlen with
  | [v0, v1, v2, v3], _ =>
    simp [k1, k2, k3] at h0 h1 h2 h3
    have e0 := hcell 0 (by omega)
    have e1 := hcell 1 (by omega)
    have e2 := hcell 2 (by omega)
    have e3 := hcell 3 (by omega)
    obtain ⟨b, g0, _⟩ := DataW.trod_bool Try.underlying4 h0
    obtain ⟨x1, g1, _, w1⟩ := DataW.trod_int Try.underlying3 h1
    obtain ⟨u, g2, f2⟩ := trod_Ints h2
    obtain ⟨x3, g3, _, w3⟩ := DataW.trod_int Try.underlying3 h3
    simp at g0 g1 g3
    subst g0 g1 g2 g3
    refine ⟨(b, x1, u.2.2, x3), u.1, u.2.1, hb, ?_, ?_, ?_, ?_, f2.1, i64_of_wf w1, i64_of_wf w3, f2.2⟩
    · simpa [Addr.add] using e0
    · simpa [Addr.add] using e1
    · simpa [Addr.add] using e2
    · simpa [Addr.add] using e3
theorem open_Lifts {H : Type} {enc : TypeId × Value → H} {w : World} {base : Nat} {r : Reach} {b0 : Nat} {v : Value} {d : DataW H} {p : List MemPlace}
    (hv : Value.okWide Try.prog w r b0 38 v) (h : DataW.Trod enc Try.prog w base (fun _ => true) true 38 v d p) :
    ∃ u : Option Addr × Nat × List Lft, v = .slice u.1 u.2.2.length u.2.1 ∧ (Lifts w u.1 u.2.2 ∧ u.2.2.length ≤ 9223372036854775807 ∧ ∀ s ∈ u.2.2, s.2.2.1.length ≤ 9223372036854775807) := by
  obtain ⟨A, len, cap, rfl⟩ := okWide_slice Try.underlying38 hv
  obtain ⟨fuel, hf⟩ := h
  have k4 : Try.prog.cellsOf 64 = 4 := by kernel_rfl
  rcases open_slice Try.underlying38 hf with ⟨hcs, _⟩ | ⟨x, l, c, m, n, D, Pl, hcs, _, hl, hm, hmm, _, hrow⟩
  · simp [Value.cells] at hcs
    obtain ⟨rfl, rfl, rfl⟩ := hcs
    exact ⟨⟨none, 0, []⟩, rfl, Lifts.nil, by simp, by simp⟩
  · simp [Value.cells] at hcs
    obtain ⟨rfl, rfl, rfl⟩ := hcs
    simp only [if_true] at hmm
    have each : ∀ i, i < len → ∃ s : Lft, ∃ (C : Option Addr) (c : Nat), (x.add (i * 4)).block < w.heap.size ∧ w.cell? (x.add (i * 4)) = some (.bool s.1) ∧ w.cell? ⟨(x.add (i * 4)).block, (x.add (i * 4)).off + 1, none⟩ = some (.int .i64 s.2.1) ∧ w.cell? ⟨(x.add (i * 4)).block, (x.add (i * 4)).off + 2, none⟩ = some (.slice C s.2.2.1.length c) ∧
      w.cell? ⟨(x.add (i * 4)).block, (x.add (i * 4)).off + 3, none⟩ = some (.int .i64 s.2.2.2) ∧ Ints w C s.2.2.1 ∧ I64 s.2.1 ∧ I64 s.2.2.2 ∧ s.2.2.1.length ≤ 9223372036854775807 := fun i hi => by
      obtain ⟨cs', h1, h2⟩ := hrow i (by omega)
      rw [k4] at h1
      exact trod_Lift h1 h2
    obtain ⟨S, hS⟩ := choose_lt (α := Lft) each
    have hlen : ((List.range len).map S).length = len := by simp
    refine ⟨⟨some x, cap, (List.range len).map S⟩, by rw [hlen], fun k s hk => ?_, by rw [hlen]; unfold maxLen at hm; omega, fun s hs => ?_⟩
    · have hkl : k < len := by
        have := (List.getElem?_eq_some_iff.1 hk).1
        simpa using this
      rw [List.getElem?_map, List.getElem?_range hkl] at hk
      simp only [Option.map_some, Option.some.injEq] at hk
      subst hk
      obtain ⟨C, c, b, g0, g1, g2, g3, gi, i1, i2, _⟩ := hS k hkl
      rw [block_add] at b
      exact ⟨x, C, c, rfl, b, g0, g1, g2, g3, gi, i1, i2⟩
    · obtain ⟨k, hk, rfl⟩ := List.mem_map.1 hs
      obtain ⟨C, c, _, _, _, _, _, _, _, _, hl⟩ := hS k (List.mem_range.1 hk)
      exact hl
end Go.Proofs.Ytmdfgidejdiiiaa
end
