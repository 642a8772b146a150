/- How an argument is opened: a slice of instructions. -/
import Derived.Test.YtemefigbnjkdoaaDoorO2
import Derived.Test.YtemefigbnjkdoaaDoorE5
set_option linter.unusedVariables false
set_option linter.unusedSimpArgs false
set_option maxRecDepth 100000
namespace Go.Proofs.YtemefigbnjkdoaaDoor
open Go.Joins Go.ChangeShapes Go.WideShapes Go.RowKit Go.Deep

instance : Inhabited Ins := ⟨Ins.zero⟩
theorem trod_Ins {H : Type} {enc : TypeId × Value → H} {w : World} {base fuel : Nat} {v0 v1 v2 v3 : Value} {y : DataW H × List MemPlace}
    (hf : DataW.trod enc Tryd.prog w base (fun _ => true) true fuel 50 [v0, v1, v2, v3] = some y) : ∃ i : Ins, [v0, v1, v2, v3] = i.cells ∧ i.ok := by
  obtain ⟨xs, n, _, _, _, hlen, hf⟩ := DataW.trod_struct Tryd.underlying50 hf
  have ki : Tryd.prog.cellsOf 3 = 1 := by kernel_rfl
  have h0 := hf 0 _ rfl
  have h1 := hf 1 _ rfl
  have h2 := hf 2 _ rfl
  have h3 := hf 3 _ rfl
  obtain ⟨y0, q0⟩ := get_lt hlen (i := 0) (by decide)
  obtain ⟨y1, q1⟩ := get_lt hlen (i := 1) (by decide)
  obtain ⟨y2, q2⟩ := get_lt hlen (i := 2) (by decide)
  obtain ⟨y3, q3⟩ := get_lt hlen (i := 3) (by decide)
  rw [q0] at h0
  rw [q1] at h1
  rw [q2] at h2
  rw [q3] at h3
  clear hf q0 q1 q2 q3
  simp [ki] at h0 h1 h2 h3
  obtain ⟨a0, g0, _, w0⟩ := DataW.trod_int Tryd.underlying3 h0
  obtain ⟨a1, g1, _, w1⟩ := DataW.trod_int Tryd.underlying3 h1
  obtain ⟨a2, g2, _, w2⟩ := DataW.trod_int Tryd.underlying3 h2
  obtain ⟨a3, g3, _, w3⟩ := DataW.trod_int Tryd.underlying3 h3
  simp at g0 g1 g2 g3
  subst g0 g1 g2 g3
  exact ⟨⟨a0, a1, a2, a3⟩, rfl, i64_of_wf w0, i64_of_wf w1, i64_of_wf w2, i64_of_wf w3⟩
theorem open_Inss {H : Type} {enc : TypeId × Value → H} {w : World} {base : Nat} {r : Reach} {b0 : Nat} {v : Value} {d : DataW H} {p : List MemPlace}
    (hv : Value.okWide Tryd.prog w r b0 22 v) (h : DataW.Trod enc Tryd.prog w base (fun _ => true) true 22 v d p) :
    ∃ u : Option Addr × Nat × List Ins, v = .slice u.1 u.2.2.length u.2.1 ∧ (InsAt w u.1 u.2.2 ∧ u.2.2.length ≤ 9223372036854775807) := by
  obtain ⟨A, len, cap, rfl⟩ := okWide_slice Tryd.underlying22 hv
  obtain ⟨fuel, hf⟩ := h
  replace hf : DataW.trod enc Tryd.prog w base (fun _ => true) true fuel 22 [.slice A len cap] = some (d, p) := hf
  obtain ⟨u, e, h, hl⟩ := open_rowsR (β := Ins) (k := 4) Tryd.underlying22 (by kernel_rfl)
    (fun a x => a.spot = none ∧ a.block < w.heap.size ∧ w.rangeAt a.block a.off x.cells ∧ x.ok)
    (fun m a cs y hc h => by
      obtain ⟨_, hlen, hcell⟩ := World.cells?_some hc
      have hb := World.cells?_block hc (by decide)
      match cs, hlen with
      | [v0, v1, v2, v3], _ =>
        have hs : a.spot = none := spot_none (a := a) (v := v0) (by have := hcell 0 (by decide); simpa [Addr.add] using this)
        obtain ⟨i, e0, f0⟩ := trod_Ins h
        refine ⟨i, hs, hb, fun j v hj => ?_, f0⟩
        have hj4 : j < 4 := (List.getElem?_eq_some_iff.1 hj).1
        have := hcell j hj4
        rw [add_noneI hs] at this
        rw [this, ← hj, ← e0]) hf
  refine ⟨u, e, fun k c hk => ?_, hl⟩
  obtain ⟨ad, ea, hs, hb, hr, hok⟩ := h k c hk
  have hlt := (List.getElem?_eq_some_iff.1 hk).1
  obtain ⟨ad0, ea0, hs0, -⟩ := h 0 _ (List.getElem?_eq_getElem (Nat.lt_of_le_of_lt (Nat.zero_le _) hlt))
  rw [ea] at ea0; injection ea0 with ea0; subst ea0
  replace hs0 : ad.spot = none := by
    have : ad.add (0 * 4) = ad := by simp [Addr.add]
    rw [this] at hs0; exact hs0
  refine ⟨ad, ea, hs0, ?_, ?_, hok⟩
  · rw [block_add] at hb; exact hb
  · rw [add_noneI hs0] at hr; exact hr
end Go.Proofs.YtemefigbnjkdoaaDoor
