/- Several texts in one: O2 Oq. -/
import Derived.Test.YtmdfgidejdiiiaanFztoZn
import Derived.Deep.Slices
import Derived.Lib.SmallJoins
import Derived.Test.YtmdfgidejdiiiaanKc
set_option linter.unusedVariables false
set_option linter.unusedSimpArgs false
section
set_option maxRecDepth 100000
namespace Go.Proofs.Ytmdfgidejdiiiaa
open Go.Joins Go.ChangeShapes Go.WideShapes Go.RowKit Go.Deep
theorem get_lt {α : Type} {l : List α} {n i : Nat} (h : l.length = n) (hi : i < n) : ∃ x, l[i]? = some x := ⟨_, List.getElem?_eq_getElem (h ▸ hi)⟩
end Go.Proofs.Ytmdfgidejdiiiaa
end
section
set_option maxRecDepth 100000
namespace Go.Proofs.Ytmdfgidejdiiiaa
open Go.Joins Go.ChangeShapes Go.WideShapes Go.RowKit
theorem trod_Digs {H : Type} {enc : TypeId × Value → H} {w : World} {base fuel : Nat} {spare : Nat → Bool} {held : Bool} {v : Value} {y : DataW H × List MemPlace}
    (hf : DataW.trod enc Try.prog w base spare held fuel 24 [v] = some y) :
    ∃ u : Option Addr × Nat × List Int, v = .slice u.1 u.2.2.length u.2.1 ∧ (DigA w u.1 u.2.2 ∧ u.2.2.length ≤ u.2.1) := by
  rcases open_ints Try.underlying24 Try.underlying77 (by kernel_rfl) hf with ⟨hcs, _⟩ | ⟨x, l, c, zs, hcs, _, hl, hm, hz, _, hcell, hwz⟩
  · simp at hcs
    subst hcs
    exact ⟨⟨none, 0, []⟩, rfl, DigA.nil, Nat.le_refl _⟩
  · simp at hcs
    subst hcs
    have hlz : l ≤ zs.length := by rw [hz]; split <;> omega
    have hlen : (zs.take l).length = l := by simp; omega
    refine ⟨⟨some x, c, zs.take l⟩, by rw [hlen], ⟨fun k v hk => ?_, fun y hy => ?_⟩, by rw [hlen]; exact hl⟩
    · rw [List.getElem?_map] at hk
      cases hx : (zs.take l)[k]? with
      | none => rw [hx] at hk; cases hk
      | some q =>
        rw [hx] at hk
        simp only [Option.map_some, Option.some.injEq] at hk
        subst hk
        have hkl : k < l := by
          have := (List.getElem?_eq_some_iff.1 hx).1
          omega
        rw [List.getElem?_take_of_lt hkl] at hx
        have hc := hcell k (by omega)
        rw [List.getD_eq_getElem?_getD, hx] at hc
        have hb := cell_lt hc
        rw [block_add] at hb
        exact ⟨x, rfl, hb, hc⟩
    · have h := hwz y (List.mem_of_mem_take hy)
      simp [Lit.wf, IntKind.min, IntKind.max, IntKind.signed, IntKind.bits] at h
      exact ⟨by omega, by omega⟩
theorem open_Rat {H : Type} {enc : TypeId × Value → H} {w : World} {base : Nat} {spare : Nat → Bool} {held : Bool} {r : Reach} {b0 : Nat} {v : Value} {d : DataW H} {p : List MemPlace}
    (hv : Value.okWide Try.prog w r b0 28 v) (h : DataW.Trod enc Try.prog w base spare held 28 v d p) :
    ∃ u : Bool × (Option Addr × Nat × List Int) × (Option Addr × Nat × List Int), v = .agg #[.bool u.1, .slice u.2.1.1 u.2.1.2.2.length u.2.1.2.1, .slice u.2.2.1 u.2.2.2.2.length u.2.2.2.1] ∧ RatOk w u := by
  obtain ⟨cs, rfl, hsz⟩ := okWide_struct Try.underlying28 hv
  have h3 : cs.size = 3 := hsz.trans (by kernel_rfl)
  obtain ⟨v0, v1, v2, rfl⟩ : ∃ a b c, cs = #[a, b, c] := by
    obtain ⟨l⟩ := cs
    match l, h3 with
    | [a, b, c], _ => exact ⟨a, b, c, rfl⟩
  obtain ⟨fuel, hf⟩ := h
  obtain ⟨xs, n, _, _, _, hlen, hf⟩ := DataW.trod_struct Try.underlying28 hf
  have ki : Try.prog.cellsOf 26 = 2 := by kernel_rfl
  have ks : Try.prog.cellsOf 24 = 1 := by kernel_rfl
  have kb : Try.prog.cellsOf 4 = 1 := by kernel_rfl
  have h0 := hf 0 _ rfl
  have h1 := hf 1 _ rfl
  obtain ⟨y0, q0⟩ := get_lt hlen (i := 0) (by decide)
  obtain ⟨y1, q1⟩ := get_lt hlen (i := 1) (by decide)
  rw [q0] at h0
  rw [q1] at h1
  clear hf q0 q1
  simp [ki, ks, Value.cells] at h0 h1
  obtain ⟨u1, rfl, f1⟩ := trod_Digs h1
  obtain ⟨xs2, n2, _, _, _, hlen2, hf2⟩ := DataW.trod_struct Try.underlying26 h0
  have g0 := hf2 0 _ rfl
  have g1 := hf2 1 _ rfl
  obtain ⟨z0, r0⟩ := get_lt hlen2 (i := 0) (by decide)
  obtain ⟨z1, r1⟩ := get_lt hlen2 (i := 1) (by decide)
  rw [r0] at g0
  rw [r1] at g1
  clear hf2 r0 r1
  simp [kb, ks] at g0 g1
  obtain ⟨u0, rfl, f0⟩ := trod_Digs g1
  obtain ⟨b, e0, _⟩ := DataW.trod_bool Try.underlying4 g0
  simp at e0
  subst e0
  exact ⟨⟨b, u0, u1⟩, rfl, f0, f1⟩
end Go.Proofs.Ytmdfgidejdiiiaa
end
