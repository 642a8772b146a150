/- Several texts in one: Op Ow. -/
import Derived.Test.YtgdccmmcjicgkaaDoorkOdtoS1
import Derived.Test.YtgdccmmcjicgkaaDoorkOntoU5
import Derived.Test.YtgdccmmcjicgkaaDoorkS9toS19
import Derived.Test.YtgdccmmcjicgkaaDoorkL5toO2
import Derived.Laws.EntriesVeiled
import Derived.Test.YtgdccmmcjicgkaaDoorkL6toOf
import Derived.Test.YtgdccmmcjicgkaaDoorkL2toL4
import Derived.Stop.LaidErr
set_option linter.unusedVariables false
set_option linter.unusedSimpArgs false
section
set_option maxRecDepth 100000
namespace Go.Proofs.YtgdccmmcjicgkaaDoor
open Go.Joins Go.ChangeShapes Go.WideShapes Go.RowKit Go.Deep
theorem trod_WordP {H : Type} {enc : TypeId × Value → H} {w : World} {base fuel : Nat} {v0 v1 v2 v3 : Value} {y : DataW H × List MemPlace}
    (hf : DataW.trod enc Tryd.prog w base (fun _ => true) true fuel 40 [v0, v1, v2, v3] = some y) :
    ∃ a b c d : Int, v0 = .int .i64 a ∧ v1 = .int .i64 b ∧ v2 = .int .i64 c ∧ v3 = .int .i64 d := by
  obtain ⟨xs, n, _, _, _, hlen, hf⟩ := DataW.trod_struct Tryd.underlying40 hf
  have k2 : Tryd.prog.cellsOf 3 = 1 := by kernel_rfl
  have h0 := hf 0 _ rfl
  have h1 := hf 1 _ rfl
  have h2 := hf 2 _ rfl
  have h3 := hf 3 _ rfl
  obtain ⟨y0, q0⟩ := get_lt hlen (i := 0) (by decide)
  obtain ⟨y1, q1⟩ := get_lt hlen (i := 1) (by decide)
  obtain ⟨y2, q2⟩ := get_lt hlen (i := 2) (by decide)
  obtain ⟨y3, q3⟩ := get_lt hlen (i := 3) (by decide)
  rw [q0] at h0
  rw [q1] at h1
  rw [q2] at h2
  rw [q3] at h3
  clear hf q0 q1 q2 q3
  simp [k2, Value.cells] at h0 h1 h2 h3
  obtain ⟨x0, g0, _, w0⟩ := DataW.trod_int Tryd.underlying3 h0
  obtain ⟨x1, g1, _, w1⟩ := DataW.trod_int Tryd.underlying3 h1
  obtain ⟨x2, g2, _, w2⟩ := DataW.trod_int Tryd.underlying3 h2
  obtain ⟨x3, g3, _, w3⟩ := DataW.trod_int Tryd.underlying3 h3
  simp at g0 g1 g2 g3
  exact ⟨x0, x1, x2, x3, g0, g1, g2, g3⟩
theorem trod_Ring {H : Type} {enc : TypeId × Value → H} {w : World} {base fuel : Nat} {v0 v1 : Value} {y : DataW H × List MemPlace}
    (hf : DataW.trod enc Tryd.prog w base (fun _ => true) true fuel 64 [v0, v1] = some y) : ∃ x : Int × Int, [v0, v1] = rgCells x ∧ I64 x.1 ∧ I64 x.2 := by
  obtain ⟨xs, n, _, _, _, hlen, hf⟩ := DataW.trod_struct Tryd.underlying64 hf
  have k2 : Tryd.prog.cellsOf 3 = 1 := by kernel_rfl
  have h0 := hf 0 _ rfl
  have h1 := hf 1 _ rfl
  obtain ⟨y0, q0⟩ := get_lt hlen (i := 0) (by decide)
  obtain ⟨y1, q1⟩ := get_lt hlen (i := 1) (by decide)
  rw [q0] at h0
  rw [q1] at h1
  clear hf q0 q1
  simp [k2, Value.cells] at h0 h1
  obtain ⟨x0, g0, _, w0⟩ := DataW.trod_int Tryd.underlying3 h0
  obtain ⟨x1, g1, _, w1⟩ := DataW.trod_int Tryd.underlying3 h1
  simp at g0 g1
  subst g0 g1
  exact ⟨(x0, x1), rfl, i64_of_wf w0, i64_of_wf w1⟩
theorem trod_Rings {H : Type} {enc : TypeId × Value → H} {w : World} {base fuel : Nat} {v : Value} {y : DataW H × List MemPlace}
    (hf : DataW.trod enc Tryd.prog w base (fun _ => true) true fuel 41 [v] = some y) :
    ∃ u : Option Addr × Nat × List (Int × Int), v = .slice u.1 u.2.2.length u.2.1 ∧ RingsAt w u.1 u.2.2 ∧ u.2.2.length ≤ 9223372036854775807 := by
  obtain ⟨u, e, h, hl⟩ := open_rowsR (β := (Int × Int)) (k := 2) Tryd.underlying41 (by kernel_rfl)
    (fun a x => a.spot = none ∧ a.block < w.heap.size ∧ w.rangeAt a.block a.off (rgCells x) ∧ (I64 x.1 ∧ I64 x.2))
    (fun m a cs y hc h => by
      obtain ⟨_, hlen, hcell⟩ := World.cells?_some hc
      have hb := World.cells?_block hc (by decide)
      match cs, hlen with
      | [v0, v1], _ =>
        have hs : a.spot = none := spot_none (a := a) (v := v0) (by have := hcell 0 (by decide); simpa [Addr.add] using this)
        obtain ⟨i, e0, f0⟩ := trod_Ring h
        refine ⟨i, hs, hb, fun j v hj => ?_, f0⟩
        have hj4 : j < 2 := (List.getElem?_eq_some_iff.1 hj).1
        have := hcell j hj4
        rw [add_noneI hs] at this
        rw [this, ← hj, ← e0]) hf
  refine ⟨u, e, fun k c hk => ?_, hl⟩
  obtain ⟨ad, ea, hs, hb, hr, hok⟩ := h k c hk
  have hlt := (List.getElem?_eq_some_iff.1 hk).1
  obtain ⟨ad0, ea0, hs0, -⟩ := h 0 _ (List.getElem?_eq_getElem (Nat.lt_of_le_of_lt (Nat.zero_le _) hlt))
  rw [ea] at ea0; injection ea0 with ea0; subst ea0
  replace hs0 : ad.spot = none := by
    have : ad.add (0 * 2) = ad := by simp [Addr.add]
    rw [this] at hs0; exact hs0
  refine ⟨ad, ea, hs0, ?_, ?_, hok⟩
  · rw [block_add] at hb; exact hb
  · rw [add_noneI hs0] at hr; exact hr
theorem trod_Inss {H : Type} {enc : TypeId × Value → H} {w : World} {base fuel : Nat} {v : Value} {y : DataW H × List MemPlace}
    (hf : DataW.trod enc Tryd.prog w base (fun _ => true) true fuel 22 [v] = some y) :
    ∃ u : Option Addr × Nat × List Ins, v = .slice u.1 u.2.2.length u.2.1 ∧ InsAt w u.1 u.2.2 ∧ u.2.2.length ≤ 9223372036854775807 := by
  obtain ⟨u, e, h, hl⟩ := open_rowsR (β := Ins) (k := 4) Tryd.underlying22 (by kernel_rfl)
    (fun a x => a.spot = none ∧ a.block < w.heap.size ∧ w.rangeAt a.block a.off x.cells ∧ x.ok)
    (fun m a cs y hc h => by
      obtain ⟨_, hlen, hcell⟩ := World.cells?_some hc
      have hb := World.cells?_block hc (by decide)
      match cs, hlen with
      | [v0, v1, v2, v3], _ =>
        have hs : a.spot = none := spot_none (a := a) (v := v0) (by have := hcell 0 (by decide); simpa [Addr.add] using this)
        obtain ⟨i, e0, f0⟩ := trod_Ins h
        refine ⟨i, hs, hb, fun j v hj => ?_, f0⟩
        have hj4 : j < 4 := (List.getElem?_eq_some_iff.1 hj).1
        have := hcell j hj4
        rw [add_noneI hs] at this
        rw [this, ← hj, ← e0]) hf
  refine ⟨u, e, fun k c hk => ?_, hl⟩
  obtain ⟨ad, ea, hs, hb, hr, hok⟩ := h k c hk
  have hlt := (List.getElem?_eq_some_iff.1 hk).1
  obtain ⟨ad0, ea0, hs0, -⟩ := h 0 _ (List.getElem?_eq_getElem (Nat.lt_of_le_of_lt (Nat.zero_le _) hlt))
  rw [ea] at ea0; injection ea0 with ea0; subst ea0
  replace hs0 : ad.spot = none := by
    have : ad.add (0 * 4) = ad := by simp [Addr.add]
    rw [this] at hs0; exact hs0
  refine ⟨ad, ea, hs0, ?_, ?_, hok⟩
  · rw [block_add] at hb; exact hb
  · rw [add_noneI hs0] at hr; exact hr
theorem array10 {α : Type} {cs : Array α} (h : cs.size = 10) : ∃ c0 c1 c2 c3 c4 c5 c6 c7 c8 c9, cs = #[c0, c1, c2, c3, c4, c5, c6, c7, c8, c9] := by
  obtain ⟨l⟩ := cs
  match l, h with
  | [c0, c1, c2, c3, c4, c5, c6, c7, c8, c9], _ => exact ⟨c0, c1, c2, c3, c4, c5, c6, c7, c8, c9, rfl⟩
theorem trod_Prg {H : Type} {enc : TypeId × Value → H} {w : World} {base fuel : Nat} {v0 v1 v2 v3 v4 v5 v6 v7 v8 v9 : Value} {y : DataW H × List MemPlace}
    (hf : DataW.trod enc Tryd.prog w base (fun _ => true) true fuel 43 [v0, v1, v2, v3, v4, v5, v6, v7, v8, v9] = some y) :
    ∃ u : PrgA, [v0, v1, v2, v3, v4, v5, v6, v7, v8, v9] = u.lst ∧ PrgAt w u ∧ u.d.rg.length ≤ 9223372036854775807 ∧ u.d.code.length ≤ 9223372036854775807 := by
  obtain ⟨xs, n, _, _, _, hlen, hf⟩ := DataW.trod_struct Tryd.underlying43 hf
  have kw : Tryd.prog.cellsOf 40 = 4 := by kernel_rfl
  have kr : Tryd.prog.cellsOf 41 = 1 := by kernel_rfl
  have kc : Tryd.prog.cellsOf 22 = 1 := by kernel_rfl
  have h0 := hf 0 _ rfl
  have h1 := hf 1 _ rfl
  have h2 := hf 2 _ rfl
  have h3 := hf 3 _ rfl
  obtain ⟨y0, q0⟩ := get_lt hlen (i := 0) (by decide)
  obtain ⟨y1, q1⟩ := get_lt hlen (i := 1) (by decide)
  obtain ⟨y2, q2⟩ := get_lt hlen (i := 2) (by decide)
  obtain ⟨y3, q3⟩ := get_lt hlen (i := 3) (by decide)
  rw [q0] at h0
  rw [q1] at h1
  rw [q2] at h2
  rw [q3] at h3
  clear hf q0 q1 q2 q3
  simp [kw, kr, kc, Value.cells] at h0 h1 h2 h3
  obtain ⟨d0, d1, d2, d3, rfl, rfl, rfl, rfl⟩ := trod_WordP h0
  obtain ⟨c0, c1, c2, c3, rfl, rfl, rfl, rfl⟩ := trod_WordP h1
  obtain ⟨u2, rfl, f2, l2⟩ := trod_Rings h2
  obtain ⟨u3, rfl, f3, l3⟩ := trod_Inss h3
  exact ⟨⟨⟨d0, d1, d2, d3, c0, c1, c2, c3, u2.2.2, u3.2.2⟩, u2.1, u3.1, u2.2.1, u3.2.1⟩, rfl, ⟨f2, f3⟩, l2, l3⟩
theorem open_Prg {H : Type} {enc : TypeId × Value → H} {w : World} {base : Nat} {r : Reach} {b0 : Nat} {v : Value} {d : DataW H} {p : List MemPlace}
    (hv : Value.okWide Tryd.prog w r b0 43 v) (h : DataW.Trod enc Tryd.prog w base (fun _ => true) true 43 v d p) :
    ∃ u : PrgA, v = u.v ∧ (PrgAt w u ∧ u.d.rg.length ≤ 9223372036854775807 ∧ u.d.code.length ≤ 9223372036854775807) := by
  obtain ⟨cs, rfl, hsz⟩ := okWide_struct Tryd.underlying43 hv
  obtain ⟨v0, v1, v2, v3, v4, v5, v6, v7, v8, v9, rfl⟩ := array10 (hsz.trans (by kernel_rfl))
  obtain ⟨fuel, hf⟩ := h
  obtain ⟨u, e, hu⟩ := trod_Prg hf
  refine ⟨u, ?_, hu⟩
  show Value.agg (List.toArray [v0, v1, v2, v3, v4, v5, v6, v7, v8, v9]) = _
  rw [e]; rfl
end Go.Proofs.YtgdccmmcjicgkaaDoor
end
section
set_option maxRecDepth 100000
namespace Go.Proofs.YtgdccmmcjicgkaaDoor
open Go.Joins Go.ChangeShapes Go.WideShapes Go.RowKit Go.Deep
theorem opStr_word {k : Nat} (hk : k < 12) {s : ByteArray} (h : s.data.toList = (opWord k).map UInt8.ofNat) : s = opStr k := by
  have h2 : (opStr k).data.toList = (opWord k).map UInt8.ofNat := by
    match k, hk with
    | 0, _ | 1, _ | 2, _ | 3, _ | 4, _ | 5, _ | 6, _ | 7, _ | 8, _ | 9, _ | 10, _ | 11, _ => decide
  rw [str_eq h, ← h2]
  exact (str_eq rfl).symm
theorem tTab : ∃ g, Tryd.prog.globalNamed "internal/strconv.uint64pow10" = some g ∧ (Tryd.prog.globals[g]?).map (·.type) = some 158 := ⟨(Tryd.prog.globalNamed "internal/strconv.uint64pow10").getD 0, by kernel_rfl, by kernel_rfl⟩
theorem prAt_of_laid {W : World} {d1 d2 d3 d4 : DataW Unit} (h1 : d1.handleName?.isNone = true) (h2 : d2.handleName?.isNone = true) (hd3 : d3 = Lib.tabData .u64 Lib.pow10Tab) (hd : d4 = .agg [.agg [.lit (.string [104, 97, 108, 116]), .agg [.lit (.int .i64 0), .lit (.int .i64 0), .lit (.int .i64 0)]], .agg [.lit (.string [99, 108, 101, 97, 114]), .agg [.lit (.int .i64 0), .lit (.int .i64 0), .lit (.int .i64 0)]], .agg [.lit (.string [109, 97, 99]), .agg [.lit (.int .i64 1), .lit (.int .i64 0), .lit (.int .i64 5)]], .agg [.lit (.string [109, 97, 99, 109]), .agg [.lit (.int .i64 2), .lit (.int .i64 0), .lit (.int .i64 5)]], .agg [.lit (.string [109, 97, 99, 99]), .agg [.lit (.int .i64 3), .lit (.int .i64 4), .lit (.int .i64 5)]], .agg [.lit (.string [114, 111, 117, 110, 100]), .agg [.lit (.int .i64 1), .lit (.int .i64 0), .lit (.int .i64 0)]], .agg [.lit (.string [108, 111, 97, 100]), .agg [.lit (.int .i64 1), .lit (.int .i64 2), .lit (.int .i64 0)]], .agg [.lit (.string [115, 116, 111, 114, 101]), .agg [.lit (.int .i64 1), .lit (.int .i64 2), .lit (.int .i64 0)]], .agg [.lit (.string [112, 117, 115, 104]), .agg [.lit (.int .i64 3), .lit (.int .i64 1), .lit (.int .i64 0)]], .agg [.lit (.string [105, 110]), .agg [.lit (.int .i64 1), .lit (.int .i64 0), .lit (.int .i64 0)]], .agg [.lit (.string [111, 117, 116]), .agg [.lit (.int .i64 1), .lit (.int .i64 0), .lit (.int .i64 0)]], .agg [.lit (.string [109, 111, 118, 101]), .agg [.lit (.int .i64 1), .lit (.int .i64 1), .lit (.int .i64 0)]]])
    (h : laidMetH Tryd.prog [("math/bits.deBruijn32tab", d1), ("math/bits.deBruijn64tab", d2), ("internal/strconv.uint64pow10", d3), ("dspcompiler/processor.forms", d4)] W) : PrAt W := by
  have h3 : d3.handleName?.isNone = true := by rw [hd3]; rfl
  have h4 : d4.handleName?.isNone = true := by rw [hd]; rfl
  rw [MakeChecks.laidMetH_plain _ _ _ (by simp [h1, h2, h3, h4])] at h
  obtain ⟨g, hg, hty⟩ := tTab
  have ht := h.tail.tail
  rw [hd3] at ht
  have htab := Lib.tabIs_of_head hg hty Tryd.underlying158 Tryd.underlying152 (by kernel_rfl) (by kernel_rfl) ht
  have hl := h.tail.tail.tail
  rw [← MakeChecks.laidMetH_plain _ _ _ (by simp [h4])] at hl
  obtain ⟨hf, hw⟩ := forms_of_laid hd hl
  exact ⟨hf, fun k hk => by obtain ⟨s, e1, e2⟩ := hw k hk; rw [e1, opStr_word hk e2], htab⟩
theorem open_Ins {H : Type} {enc : TypeId × Value → H} {w : World} {base : Nat} {r : Reach} {b0 : Nat} {v : Value} {d : DataW H} {p : List MemPlace}
    (hv : Value.okWide Tryd.prog w r b0 24 v) (h : DataW.Trod enc Tryd.prog w base (fun _ => true) true 24 v d p) :
    ∃ i : Ins, v = i.v ∧ i.ok := by
  obtain ⟨cs, rfl, hsz⟩ := okWide_struct Tryd.underlying24 hv
  obtain ⟨v0, v1, v2, v3, rfl⟩ := array4 (hsz.trans (by kernel_rfl))
  obtain ⟨fuel, hf⟩ := h
  obtain ⟨i, e, hi⟩ := trod_Ins hf
  refine ⟨i, ?_, hi⟩
  show Value.agg (List.toArray [v0, v1, v2, v3]) = _
  rw [e]; rfl
end Go.Proofs.YtgdccmmcjicgkaaDoor
end
