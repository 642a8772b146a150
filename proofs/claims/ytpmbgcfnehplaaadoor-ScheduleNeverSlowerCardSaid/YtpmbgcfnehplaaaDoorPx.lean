/- Several texts in one: O2 On. -/
import Derived.Test.YtpmbgcfnehplaaaDoorPr
import Derived.Deep.Slices
import Derived.Lib.SmallJoins
section
/- How an argument is opened: a slice of any things. -/
set_option linter.unusedVariables false
set_option linter.unusedSimpArgs false
set_option maxRecDepth 100000
namespace Go.Proofs.YtpmbgcfnehplaaaDoor
open Go.Joins Go.ChangeShapes Go.WideShapes Go.RowKit Go.Deep

theorem get_lt {α : Type} {l : List α} {n i : Nat} (h : l.length = n) (hi : i < n) : ∃ x, l[i]? = some x := ⟨_, List.getElem?_eq_getElem (h ▸ hi)⟩
/-- A slice whose things each read as a b. -/
theorem open_rowsR {H : Type} {enc : TypeId × Value → H} {w : World} {base fuel : Nat} {β : Type} [Inhabited β] {t e : TypeId} {k : Nat} (ht : Tryd.prog.underlying t = some (.slice e)) (hk : Tryd.prog.cellsOf e = k) (R : Addr → β → Prop)
    (each : ∀ (m : Nat) (a : Addr) (cs : List Value) (y : DataW H × List MemPlace), w.cells? base a k = some cs → DataW.trod enc Tryd.prog w base (fun _ => true) true m e cs = some y → ∃ b, R a b) {v : Value} {y : DataW H × List MemPlace}
    (hf : DataW.trod enc Tryd.prog w base (fun _ => true) true fuel t [v] = some y) :
    ∃ u : Option Addr × Nat × List β, v = .slice u.1 u.2.2.length u.2.1 ∧ (∀ (i : Nat) b, u.2.2[i]? = some b → ∃ ad, u.1 = some ad ∧ R (ad.add (i * k)) b) ∧ u.2.2.length ≤ 9223372036854775807 := by
  subst hk
  rcases open_slice ht hf with ⟨hcs, _⟩ | ⟨x, l, c, m, n, D, Pl, hcs, _, hl, hm, hmm, _, hrow⟩
  · simp at hcs
    subst hcs
    exact ⟨⟨none, 0, []⟩, rfl, fun i b h => by simp at h, by simp⟩
  · simp at hcs
    subst hcs
    simp only [if_true] at hmm
    have each : ∀ i, i < l → ∃ s : β, R (x.add (i * Tryd.prog.cellsOf e)) s := fun i hi => by
      obtain ⟨cs', h1, h2⟩ := hrow i (by omega)
      exact each _ _ _ _ h1 h2
    obtain ⟨S, hS⟩ := choose_lt (α := β) each
    have hlen : ((List.range l).map S).length = l := by simp
    refine ⟨⟨some x, c, (List.range l).map S⟩, by rw [hlen], fun k s hk => ?_, by rw [hlen]; unfold maxLen at hm; omega⟩
    have hkl : k < l := by
      have := (List.getElem?_eq_some_iff.1 hk).1
      simpa using this
    rw [List.getElem?_map, List.getElem?_range hkl] at hk
    simp only [Option.map_some, Option.some.injEq] at hk
    subst hk
    exact ⟨x, rfl, hS k hkl⟩
theorem spot_none {w : World} {a : Addr} {v : Value} (h : w.cell? a = some v) : a.spot = none := by
  unfold World.cell? at h
  split at h
  · cases hs : a.spot with
    | none => rfl
    | some s => rw [hs] at h; simp at h
  · cases h
end Go.Proofs.YtpmbgcfnehplaaaDoor
end
section
/- How an argument is opened: a struct of two numbers and two slices of numbers. -/
set_option linter.unusedVariables false
set_option linter.unusedSimpArgs false
set_option maxRecDepth 100000
namespace Go.Proofs.YtpmbgcfnehplaaaDoor
open Go.Joins Go.ChangeShapes Go.WideShapes Go.RowKit

theorem trod_Ints {H : Type} {enc : TypeId × Value → H} {w : World} {base fuel : Nat} {spare : Nat → Bool} {held : Bool} {v : Value} {y : DataW H × List MemPlace}
    (hf : DataW.trod enc Tryd.prog w base spare held fuel 22 [v] = some y) :
    ∃ u : Option Addr × Nat × List Int, v = .slice u.1 u.2.2.length u.2.1 ∧ (Ints w u.1 u.2.2 ∧ u.2.2.length ≤ 9223372036854775807) := by
  rcases open_ints Tryd.underlying22 Tryd.underlying3 (by kernel_rfl) hf with ⟨hcs, _⟩ | ⟨x, l, c, zs, hcs, _, hl, hm, hz, _, hcell, hwz⟩
  · simp at hcs
    subst hcs
    exact ⟨⟨none, 0, []⟩, rfl, Ints.nil, by simp⟩
  · simp at hcs
    subst hcs
    have hlz : l ≤ zs.length := by rw [hz]; split <;> omega
    have hlen : (zs.take l).length = l := by simp; omega
    refine ⟨⟨some x, c, zs.take l⟩, by rw [hlen], ⟨fun k v hk => ?_, fun y hy => i64_of_wf (hwz y (List.mem_of_mem_take hy))⟩, by rw [hlen]; unfold maxLen at hm; omega⟩
    rw [List.getElem?_map] at hk
    cases hx : (zs.take l)[k]? with
    | none => rw [hx] at hk; cases hk
    | some q =>
      rw [hx] at hk
      simp only [Option.map_some, Option.some.injEq] at hk
      subst hk
      have hkl : k < l := by
        have := (List.getElem?_eq_some_iff.1 hx).1
        omega
      rw [List.getElem?_take_of_lt hkl] at hx
      have hc := hcell k (by omega)
      rw [List.getD_eq_getElem?_getD, hx] at hc
      have hb := cell_lt hc
      rw [block_add] at hb
      exact ⟨x, rfl, hb, hc⟩
end Go.Proofs.YtpmbgcfnehplaaaDoor
end
