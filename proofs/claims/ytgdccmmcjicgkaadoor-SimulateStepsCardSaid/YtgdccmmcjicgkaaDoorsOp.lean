/- How an argument is opened: a program, a machine. Printed by gen_op.py. -/
import Derived.Test.YtgdccmmcjicgkaaDoorsOdtoS26
import Derived.Test.YtgdccmmcjicgkaaDoorsE31toU5
import Derived.Test.YtgdccmmcjicgkaaDoorsS8toS15
set_option linter.unusedVariables false
set_option linter.unusedSimpArgs false
set_option maxRecDepth 100000
namespace Go.Proofs.YtgdccmmcjicgkaaDoor
open Go.Joins Go.ChangeShapes Go.WideShapes Go.RowKit Go.Deep
theorem trod_WordP {H : Type} {enc : TypeId × Value → H} {w : World} {base fuel : Nat} {v0 v1 v2 v3 : Value} {y : DataW H × List MemPlace}
    (hf : DataW.trod enc Tryd.prog w base (fun _ => true) true fuel 40 [v0, v1, v2, v3] = some y) :
    ∃ a b c d : Int, v0 = .int .i64 a ∧ v1 = .int .i64 b ∧ v2 = .int .i64 c ∧ v3 = .int .i64 d := by
  obtain ⟨xs, n, _, _, _, hlen, hf⟩ := DataW.trod_struct Tryd.underlying40 hf
  have k2 : Tryd.prog.cellsOf 3 = 1 := by kernel_rfl
  have h0 := hf 0 _ rfl
  have h1 := hf 1 _ rfl
  have h2 := hf 2 _ rfl
  have h3 := hf 3 _ rfl
  obtain ⟨y0, q0⟩ := get_lt hlen (i := 0) (by decide)
  obtain ⟨y1, q1⟩ := get_lt hlen (i := 1) (by decide)
  obtain ⟨y2, q2⟩ := get_lt hlen (i := 2) (by decide)
  obtain ⟨y3, q3⟩ := get_lt hlen (i := 3) (by decide)
  rw [q0] at h0
  rw [q1] at h1
  rw [q2] at h2
  rw [q3] at h3
  clear hf q0 q1 q2 q3
  simp [k2, Value.cells] at h0 h1 h2 h3
  obtain ⟨x0, g0, _, w0⟩ := DataW.trod_int Tryd.underlying3 h0
  obtain ⟨x1, g1, _, w1⟩ := DataW.trod_int Tryd.underlying3 h1
  obtain ⟨x2, g2, _, w2⟩ := DataW.trod_int Tryd.underlying3 h2
  obtain ⟨x3, g3, _, w3⟩ := DataW.trod_int Tryd.underlying3 h3
  simp at g0 g1 g2 g3
  exact ⟨x0, x1, x2, x3, g0, g1, g2, g3⟩
theorem trod_Ring {H : Type} {enc : TypeId × Value → H} {w : World} {base fuel : Nat} {v0 v1 : Value} {y : DataW H × List MemPlace}
    (hf : DataW.trod enc Tryd.prog w base (fun _ => true) true fuel 64 [v0, v1] = some y) : ∃ x : Int × Int, [v0, v1] = rgCells x ∧ I64 x.1 ∧ I64 x.2 := by
  obtain ⟨xs, n, _, _, _, hlen, hf⟩ := DataW.trod_struct Tryd.underlying64 hf
  have k2 : Tryd.prog.cellsOf 3 = 1 := by kernel_rfl
  have h0 := hf 0 _ rfl
  have h1 := hf 1 _ rfl
  obtain ⟨y0, q0⟩ := get_lt hlen (i := 0) (by decide)
  obtain ⟨y1, q1⟩ := get_lt hlen (i := 1) (by decide)
  rw [q0] at h0
  rw [q1] at h1
  clear hf q0 q1
  simp [k2, Value.cells] at h0 h1
  obtain ⟨x0, g0, _, w0⟩ := DataW.trod_int Tryd.underlying3 h0
  obtain ⟨x1, g1, _, w1⟩ := DataW.trod_int Tryd.underlying3 h1
  simp at g0 g1
  subst g0 g1
  exact ⟨(x0, x1), rfl, i64_of_wf w0, i64_of_wf w1⟩
theorem trod_Rings {H : Type} {enc : TypeId × Value → H} {w : World} {base fuel : Nat} {v : Value} {y : DataW H × List MemPlace}
    (hf : DataW.trod enc Tryd.prog w base (fun _ => true) true fuel 41 [v] = some y) :
    ∃ u : Option Addr × Nat × List (Int × Int), v = .slice u.1 u.2.2.length u.2.1 ∧ RingsAt w u.1 u.2.2 ∧ u.2.2.length ≤ 9223372036854775807 := by
  obtain ⟨u, e, h, hl⟩ := open_rowsR (β := (Int × Int)) (k := 2) Tryd.underlying41 (by kernel_rfl)
    (fun a x => a.spot = none ∧ a.block < w.heap.size ∧ w.rangeAt a.block a.off (rgCells x) ∧ (I64 x.1 ∧ I64 x.2))
    (fun m a cs y hc h => by
      obtain ⟨_, hlen, hcell⟩ := World.cells?_some hc
      have hb := World.cells?_block hc (by decide)
      match cs, hlen with
      | [v0, v1], _ =>
        have hs : a.spot = none := spot_none (a := a) (v := v0) (by have := hcell 0 (by decide); simpa [Addr.add] using this)
        obtain ⟨i, e0, f0⟩ := trod_Ring h
        refine ⟨i, hs, hb, fun j v hj => ?_, f0⟩
        have hj4 : j < 2 := (List.getElem?_eq_some_iff.1 hj).1
        have := hcell j hj4
        rw [add_noneI hs] at this
        rw [this, ← hj, ← e0]) hf
  refine ⟨u, e, fun k c hk => ?_, hl⟩
  obtain ⟨ad, ea, hs, hb, hr, hok⟩ := h k c hk
  have hlt := (List.getElem?_eq_some_iff.1 hk).1
  obtain ⟨ad0, ea0, hs0, -⟩ := h 0 _ (List.getElem?_eq_getElem (Nat.lt_of_le_of_lt (Nat.zero_le _) hlt))
  rw [ea] at ea0; injection ea0 with ea0; subst ea0
  replace hs0 : ad.spot = none := by
    have : ad.add (0 * 2) = ad := by simp [Addr.add]
    rw [this] at hs0; exact hs0
  refine ⟨ad, ea, hs0, ?_, ?_, hok⟩
  · rw [block_add] at hb; exact hb
  · rw [add_noneI hs0] at hr; exact hr
theorem trod_Inss {H : Type} {enc : TypeId × Value → H} {w : World} {base fuel : Nat} {v : Value} {y : DataW H × List MemPlace}
    (hf : DataW.trod enc Tryd.prog w base (fun _ => true) true fuel 22 [v] = some y) :
    ∃ u : Option Addr × Nat × List Ins, v = .slice u.1 u.2.2.length u.2.1 ∧ InsAt w u.1 u.2.2 ∧ u.2.2.length ≤ 9223372036854775807 := by
  obtain ⟨u, e, h, hl⟩ := open_rowsR (β := Ins) (k := 4) Tryd.underlying22 (by kernel_rfl)
    (fun a x => a.spot = none ∧ a.block < w.heap.size ∧ w.rangeAt a.block a.off x.cells ∧ x.ok)
    (fun m a cs y hc h => by
      obtain ⟨_, hlen, hcell⟩ := World.cells?_some hc
      have hb := World.cells?_block hc (by decide)
      match cs, hlen with
      | [v0, v1, v2, v3], _ =>
        have hs : a.spot = none := spot_none (a := a) (v := v0) (by have := hcell 0 (by decide); simpa [Addr.add] using this)
        obtain ⟨i, e0, f0⟩ := trod_Ins h
        refine ⟨i, hs, hb, fun j v hj => ?_, f0⟩
        have hj4 : j < 4 := (List.getElem?_eq_some_iff.1 hj).1
        have := hcell j hj4
        rw [add_noneI hs] at this
        rw [this, ← hj, ← e0]) hf
  refine ⟨u, e, fun k c hk => ?_, hl⟩
  obtain ⟨ad, ea, hs, hb, hr, hok⟩ := h k c hk
  have hlt := (List.getElem?_eq_some_iff.1 hk).1
  obtain ⟨ad0, ea0, hs0, -⟩ := h 0 _ (List.getElem?_eq_getElem (Nat.lt_of_le_of_lt (Nat.zero_le _) hlt))
  rw [ea] at ea0; injection ea0 with ea0; subst ea0
  replace hs0 : ad.spot = none := by
    have : ad.add (0 * 4) = ad := by simp [Addr.add]
    rw [this] at hs0; exact hs0
  refine ⟨ad, ea, hs0, ?_, ?_, hok⟩
  · rw [block_add] at hb; exact hb
  · rw [add_noneI hs0] at hr; exact hr
theorem array10 {α : Type} {cs : Array α} (h : cs.size = 10) : ∃ c0 c1 c2 c3 c4 c5 c6 c7 c8 c9, cs = #[c0, c1, c2, c3, c4, c5, c6, c7, c8, c9] := by
  obtain ⟨l⟩ := cs
  match l, h with
  | [c0, c1, c2, c3, c4, c5, c6, c7, c8, c9], _ => exact ⟨c0, c1, c2, c3, c4, c5, c6, c7, c8, c9, rfl⟩
theorem trod_Prg {H : Type} {enc : TypeId × Value → H} {w : World} {base fuel : Nat} {v0 v1 v2 v3 v4 v5 v6 v7 v8 v9 : Value} {y : DataW H × List MemPlace}
    (hf : DataW.trod enc Tryd.prog w base (fun _ => true) true fuel 43 [v0, v1, v2, v3, v4, v5, v6, v7, v8, v9] = some y) :
    ∃ u : PrgA, [v0, v1, v2, v3, v4, v5, v6, v7, v8, v9] = u.lst ∧ PrgAt w u ∧ u.d.rg.length ≤ 9223372036854775807 ∧ u.d.code.length ≤ 9223372036854775807 := by
  obtain ⟨xs, n, _, _, _, hlen, hf⟩ := DataW.trod_struct Tryd.underlying43 hf
  have kw : Tryd.prog.cellsOf 40 = 4 := by kernel_rfl
  have kr : Tryd.prog.cellsOf 41 = 1 := by kernel_rfl
  have kc : Tryd.prog.cellsOf 22 = 1 := by kernel_rfl
  have h0 := hf 0 _ rfl
  have h1 := hf 1 _ rfl
  have h2 := hf 2 _ rfl
  have h3 := hf 3 _ rfl
  obtain ⟨y0, q0⟩ := get_lt hlen (i := 0) (by decide)
  obtain ⟨y1, q1⟩ := get_lt hlen (i := 1) (by decide)
  obtain ⟨y2, q2⟩ := get_lt hlen (i := 2) (by decide)
  obtain ⟨y3, q3⟩ := get_lt hlen (i := 3) (by decide)
  rw [q0] at h0
  rw [q1] at h1
  rw [q2] at h2
  rw [q3] at h3
  clear hf q0 q1 q2 q3
  simp [kw, kr, kc, Value.cells] at h0 h1 h2 h3
  obtain ⟨d0, d1, d2, d3, rfl, rfl, rfl, rfl⟩ := trod_WordP h0
  obtain ⟨c0, c1, c2, c3, rfl, rfl, rfl, rfl⟩ := trod_WordP h1
  obtain ⟨u2, rfl, f2, l2⟩ := trod_Rings h2
  obtain ⟨u3, rfl, f3, l3⟩ := trod_Inss h3
  exact ⟨⟨⟨d0, d1, d2, d3, c0, c1, c2, c3, u2.2.2, u3.2.2⟩, u2.1, u3.1, u2.2.1, u3.2.1⟩, rfl, ⟨f2, f3⟩, l2, l3⟩
theorem open_Prg {H : Type} {enc : TypeId × Value → H} {w : World} {base : Nat} {r : Reach} {b0 : Nat} {v : Value} {d : DataW H} {p : List MemPlace}
    (hv : Value.okWide Tryd.prog w r b0 43 v) (h : DataW.Trod enc Tryd.prog w base (fun _ => true) true 43 v d p) :
    ∃ u : PrgA, v = u.v ∧ (PrgAt w u ∧ u.d.rg.length ≤ 9223372036854775807 ∧ u.d.code.length ≤ 9223372036854775807) := by
  obtain ⟨cs, rfl, hsz⟩ := okWide_struct Tryd.underlying43 hv
  obtain ⟨v0, v1, v2, v3, v4, v5, v6, v7, v8, v9, rfl⟩ := array10 (hsz.trans (by kernel_rfl))
  obtain ⟨fuel, hf⟩ := h
  obtain ⟨u, e, hu⟩ := trod_Prg hf
  refine ⟨u, ?_, hu⟩
  show Value.agg (List.toArray [v0, v1, v2, v3, v4, v5, v6, v7, v8, v9]) = _
  rw [e]; rfl
theorem open_Mac {H : Type} {enc : TypeId × Value → H} {w : World} {base : Nat} {r : Reach} {b0 : Nat} {v : Value} {d : DataW H} {p : List MemPlace}
    (hv : Value.okWide Tryd.prog w r b0 46 v) (h : DataW.Trod enc Tryd.prog w base (fun _ => true) true 46 v d p) :
    ∃ x : MacA, v = x.v ∧ (MacAt w x ∧ MacLen x.m ∧ I64 x.m.cyc ∧ I64 x.m.stl) := by
  obtain ⟨cs, rfl, hsz⟩ := okWide_struct Tryd.underlying46 hv
  obtain ⟨v0, v1, v2, v3, v4, rfl⟩ := array5 (hsz.trans (by kernel_rfl))
  obtain ⟨fuel, hf⟩ := h
  obtain ⟨xs, n, _, _, _, hlen, hf⟩ := DataW.trod_struct Tryd.underlying46 hf
  have ki : Tryd.prog.cellsOf 3 = 1 := by kernel_rfl
  have ks : Tryd.prog.cellsOf 32 = 1 := by kernel_rfl
  have h0 := hf 0 _ rfl
  have h1 := hf 1 _ rfl
  have h2 := hf 2 _ rfl
  have h3 := hf 3 _ rfl
  have h4 := hf 4 _ rfl
  obtain ⟨y0, q0⟩ := get_lt hlen (i := 0) (by decide)
  obtain ⟨y1, q1⟩ := get_lt hlen (i := 1) (by decide)
  obtain ⟨y2, q2⟩ := get_lt hlen (i := 2) (by decide)
  obtain ⟨y3, q3⟩ := get_lt hlen (i := 3) (by decide)
  obtain ⟨y4, q4⟩ := get_lt hlen (i := 4) (by decide)
  rw [q0] at h0
  rw [q1] at h1
  rw [q2] at h2
  rw [q3] at h3
  rw [q4] at h4
  clear hf q0 q1 q2 q3 q4
  simp [ki, ks, Value.cells] at h0 h1 h2 h3 h4
  obtain ⟨u0, rfl, f0, l0⟩ := trod_Ints h0
  obtain ⟨u1, rfl, f1, l1⟩ := trod_Ints h1
  obtain ⟨u2, rfl, f2, l2⟩ := trod_Ints h2
  obtain ⟨cy, g3, _, w3⟩ := DataW.trod_int Tryd.underlying3 h3
  obtain ⟨st, g4, _, w4⟩ := DataW.trod_int Tryd.underlying3 h4
  simp at g3 g4
  subst g3 g4
  exact ⟨⟨⟨u0.2.2, u1.2.2, u2.2.2, cy, st⟩, u0.1, u1.1, u2.1, u0.2.1, u1.2.1, u2.2.1⟩, rfl, ⟨f0, f1, f2⟩, ⟨l0, l1, l2⟩, i64_of_wf w3, i64_of_wf w4⟩
end Go.Proofs.YtgdccmmcjicgkaaDoor
