/- Several texts in one: On Oh. -/
import Derived.Test.YtgabfdappeakiaaPr
import Derived.Test.YtgabfdappeakiaaG10
import Derived.Deep.Slices
import Derived.Lib.SmallJoins
section
/- How an argument is opened: a struct of two numbers and two slices of numbers. -/
set_option linter.unusedVariables false
set_option linter.unusedSimpArgs false
set_option maxRecDepth 100000
namespace Go.Proofs.Ytgabfdappeakiaa
open Go.Joins Go.ChangeShapes Go.WideShapes Go.RowKit

theorem trod_Ints {H : Type} {enc : TypeId × Value → H} {w : World} {base fuel : Nat} {spare : Nat → Bool} {held : Bool} {v : Value} {y : DataW H × List MemPlace}
    (hf : DataW.trod enc Try.prog w base spare held fuel 23 [v] = some y) :
    ∃ u : Option Addr × Nat × List Int, v = .slice u.1 u.2.2.length u.2.1 ∧ (Ints w u.1 u.2.2 ∧ u.2.2.length ≤ 9223372036854775807) := by
  rcases open_ints Try.underlying23 Try.underlying3 (by kernel_rfl) hf with ⟨hcs, _⟩ | ⟨x, l, c, zs, hcs, _, hl, hm, hz, _, hcell, hwz⟩
  · simp at hcs
    subst hcs
    exact ⟨⟨none, 0, []⟩, rfl, Ints.nil, by simp⟩
  · simp at hcs
    subst hcs
    have hlz : l ≤ zs.length := by rw [hz]; split <;> omega
    have hlen : (zs.take l).length = l := by simp; omega
    refine ⟨⟨some x, c, zs.take l⟩, by rw [hlen], ⟨fun k v hk => ?_, fun y hy => i64_of_wf (hwz y (List.mem_of_mem_take hy))⟩, by rw [hlen]; unfold maxLen at hm; omega⟩
    rw [List.getElem?_map] at hk
    cases hx : (zs.take l)[k]? with
    | none => rw [hx] at hk; cases hk
    | some q =>
      rw [hx] at hk
      simp only [Option.map_some, Option.some.injEq] at hk
      subst hk
      have hkl : k < l := by
        have := (List.getElem?_eq_some_iff.1 hx).1
        omega
      rw [List.getElem?_take_of_lt hkl] at hx
      have hc := hcell k (by omega)
      rw [List.getD_eq_getElem?_getD, hx] at hc
      have hb := cell_lt hc
      rw [block_add] at hb
      exact ⟨x, rfl, hb, hc⟩
end Go.Proofs.Ytgabfdappeakiaa
end
section
/- How an argument is opened: a network. -/
set_option linter.unusedVariables false
set_option linter.unusedSimpArgs false
set_option maxRecDepth 100000
namespace Go.Proofs.Ytgabfdappeakiaa
open Go.Joins Go.ChangeShapes Go.WideShapes Go.RowKit Go.Deep

theorem array12 {α : Type} {cs : Array α} (h : cs.size = 12) : ∃ c0 c1 c2 c3 c4 c5 c6 c7 c8 c9 c10 c11, cs = #[c0, c1, c2, c3, c4, c5, c6, c7, c8, c9, c10, c11] := by
  obtain ⟨l⟩ := cs
  match l, h with
  | [c0, c1, c2, c3, c4, c5, c6, c7, c8, c9, c10, c11], _ => exact ⟨c0, c1, c2, c3, c4, c5, c6, c7, c8, c9, c10, c11, rfl⟩
theorem array7 {α : Type} {cs : Array α} (h : cs.size = 7) : ∃ c0 c1 c2 c3 c4 c5 c6, cs = #[c0, c1, c2, c3, c4, c5, c6] := by
  obtain ⟨l⟩ := cs
  match l, h with
  | [c0, c1, c2, c3, c4, c5, c6], _ => exact ⟨c0, c1, c2, c3, c4, c5, c6, rfl⟩
theorem get_lt {α : Type} {l : List α} {n i : Nat} (h : l.length = n) (hi : i < n) : ∃ x, l[i]? = some x := ⟨_, List.getElem?_eq_getElem (h ▸ hi)⟩
/-- A slice whose things each read as a b. -/
theorem open_rowsR {H : Type} {enc : TypeId × Value → H} {w : World} {base fuel : Nat} {β : Type} [Inhabited β] {t e : TypeId} {k : Nat} (ht : Try.prog.underlying t = some (.slice e)) (hk : Try.prog.cellsOf e = k) (R : Addr → β → Prop)
    (each : ∀ (m : Nat) (a : Addr) (cs : List Value) (y : DataW H × List MemPlace), w.cells? base a k = some cs → DataW.trod enc Try.prog w base (fun _ => true) true m e cs = some y → ∃ b, R a b) {v : Value} {y : DataW H × List MemPlace}
    (hf : DataW.trod enc Try.prog w base (fun _ => true) true fuel t [v] = some y) :
    ∃ u : Option Addr × Nat × List β, v = .slice u.1 u.2.2.length u.2.1 ∧ (∀ (i : Nat) b, u.2.2[i]? = some b → ∃ ad, u.1 = some ad ∧ R (ad.add (i * k)) b) ∧ u.2.2.length ≤ 9223372036854775807 := by
  subst hk
  rcases open_slice ht hf with ⟨hcs, _⟩ | ⟨x, l, c, m, n, D, Pl, hcs, _, hl, hm, hmm, _, hrow⟩
  · simp at hcs
    subst hcs
    exact ⟨⟨none, 0, []⟩, rfl, fun i b h => by simp at h, by simp⟩
  · simp at hcs
    subst hcs
    simp only [if_true] at hmm
    have each : ∀ i, i < l → ∃ s : β, R (x.add (i * Try.prog.cellsOf e)) s := fun i hi => by
      obtain ⟨cs', h1, h2⟩ := hrow i (by omega)
      exact each _ _ _ _ h1 h2
    obtain ⟨S, hS⟩ := choose_lt (α := β) each
    have hlen : ((List.range l).map S).length = l := by simp
    refine ⟨⟨some x, c, (List.range l).map S⟩, by rw [hlen], fun k s hk => ?_, by rw [hlen]; unfold maxLen at hm; omega⟩
    have hkl : k < l := by
      have := (List.getElem?_eq_some_iff.1 hk).1
      simpa using this
    rw [List.getElem?_map, List.getElem?_range hkl] at hk
    simp only [Option.map_some, Option.some.injEq] at hk
    subst hk
    exact ⟨x, rfl, hS k hkl⟩
theorem trod_Terms {H : Type} {enc : TypeId × Value → H} {w : World} {base fuel : Nat} {v : Value} {y : DataW H × List MemPlace}
    (hf : DataW.trod enc Try.prog w base (fun _ => true) true fuel 56 [v] = some y) :
    ∃ u : Option Addr × Nat × List (Int × Int), v = .slice u.1 u.2.2.length u.2.1 ∧ TermsAt w u.1 u.2.2 ∧ u.2.2.length ≤ 9223372036854775807 := by
  obtain ⟨u, e, h, hl⟩ := open_rowsR (β := Int × Int) (k := 2) Try.underlying56 (by kernel_rfl)
    (fun a t => a.block < w.heap.size ∧ w.cell? a = some (.int .i64 t.1) ∧ w.cell? ⟨a.block, a.off + 1, none⟩ = some (.int .i64 t.2) ∧ I64 t.1 ∧ I64 t.2)
    (fun m a cs y hc h => by
      obtain ⟨_, hlen, hcell⟩ := World.cells?_some hc
      have hb := World.cells?_block hc (by decide)
      obtain ⟨y0, y1, k, _, _, h0, h1⟩ := trod_struct2 Try.underlying63 h
      have k2 : Try.prog.cellsOf 3 = 1 := by kernel_rfl
      match cs, hlen with
      | [v0, v1], _ =>
        simp [k2] at h0 h1
        have e0 := hcell 0 (by omega)
        have e1 := hcell 1 (by omega)
        obtain ⟨x0, g0, _, w0⟩ := DataW.trod_int Try.underlying3 h0
        obtain ⟨x1, g1, _, w1⟩ := DataW.trod_int Try.underlying3 h1
        simp at g0 g1
        subst g0 g1
        exact ⟨(x0, x1), hb, by simpa [Addr.add] using e0, by simpa [Addr.add] using e1, i64_of_wf w0, i64_of_wf w1⟩) hf
  refine ⟨u, e, fun k t hk => ?_, hl⟩
  obtain ⟨ad, e, hb, h⟩ := h k t hk
  rw [block_add] at hb
  exact ⟨ad, e, hb, h⟩
theorem trod_Nodes {H : Type} {enc : TypeId × Value → H} {w : World} {base fuel : Nat} {v : Value} {y : DataW H × List MemPlace}
    (hf : DataW.trod enc Try.prog w base (fun _ => true) true fuel 29 [v] = some y) :
    ∃ u : Option Addr × Nat × List (List (Int × Int)), v = .slice u.1 u.2.2.length u.2.1 ∧ NodesAt w u.1 u.2.2 ∧ u.2.2.length ≤ 9223372036854775807 ∧ ∀ ts ∈ u.2.2, ts.length ≤ 9223372036854775807 := by
  obtain ⟨u, e, h, hl⟩ := open_rowsR (β := List (Int × Int)) (k := 1) Try.underlying29 (by kernel_rfl)
    (fun a ts => a.block < w.heap.size ∧ ∃ B c, w.cell? a = some (.slice B ts.length c) ∧ TermsAt w B ts ∧ ts.length ≤ 9223372036854775807)
    (fun m a cs y hc h => by
      obtain ⟨_, hlen, hcell⟩ := World.cells?_some hc
      have hb := World.cells?_block hc (by decide)
      obtain ⟨y0, k, _, _, h0⟩ := trod_struct1 Try.underlying58 h
      have k2 : Try.prog.cellsOf 56 = 1 := by kernel_rfl
      match cs, hlen with
      | [v0], _ =>
        simp [k2] at h0
        have e0 := hcell 0 (by omega)
        obtain ⟨u, rfl, f, hl⟩ := trod_Terms h0
        exact ⟨u.2.2, hb, u.1, u.2.1, by simpa [Addr.add] using e0, f, hl⟩) hf
  refine ⟨u, e, fun k t hk => ?_, hl, fun ts hm => ?_⟩
  · obtain ⟨ad, e, hb, B, c, h, ht, _⟩ := h k t hk
    rw [block_add] at hb
    rw [Nat.mul_one] at h
    exact ⟨ad, B, c, e, hb, h, ht⟩
  · obtain ⟨k, hk⟩ := List.getElem?_of_mem hm
    obtain ⟨_, _, _, _, _, _, _, h⟩ := h k ts hk
    exact h
theorem trod_Word {H : Type} {enc : TypeId × Value → H} {w : World} {base fuel : Nat} {v0 v1 v2 v3 : Value} {y : DataW H × List MemPlace}
    (hf : DataW.trod enc Try.prog w base (fun _ => true) true fuel 28 [v0, v1, v2, v3] = some y) :
    ∃ a b c d : Int, v0 = .int .i64 a ∧ v1 = .int .i64 b ∧ v2 = .int .i64 c ∧ v3 = .int .i64 d := by
  obtain ⟨y0, y1, y2, y3, k, _, _, h0, h1, h2, h3⟩ := trod_struct4 Try.underlying28 hf
  have k2 : Try.prog.cellsOf 3 = 1 := by kernel_rfl
  simp [k2] at h0 h1 h2 h3
  obtain ⟨x0, g0, _, w0⟩ := DataW.trod_int Try.underlying3 h0
  obtain ⟨x1, g1, _, w1⟩ := DataW.trod_int Try.underlying3 h1
  obtain ⟨x2, g2, _, w2⟩ := DataW.trod_int Try.underlying3 h2
  obtain ⟨x3, g3, _, w3⟩ := DataW.trod_int Try.underlying3 h3
  simp at g0 g1 g2 g3
  exact ⟨x0, x1, x2, x3, g0, g1, g2, g3⟩
/-- A network as an argument: formats, states, nodes, next, out. -/
structure NetA where
  (d0 d1 d2 d3 c0 c1 c2 c3 st out : Int)
  (NA XA : Option Addr)
  (nc xc : Nat)
  (ns : List (List (Int × Int)))
  (nx : List Int)
def NetA.val (u : NetA) : Value := netV u.d0 u.d1 u.d2 u.d3 u.c0 u.c1 u.c2 u.c3 u.st u.NA u.ns.length u.nc u.XA u.nx.length u.xc u.out
def NetA.lst (u : NetA) : List Value := [.int .i64 u.d0, .int .i64 u.d1, .int .i64 u.d2, .int .i64 u.d3, .int .i64 u.c0, .int .i64 u.c1, .int .i64 u.c2, .int .i64 u.c3, .int .i64 u.st, .slice u.NA u.ns.length u.nc, .slice u.XA u.nx.length u.xc, .int .i64 u.out]
theorem trod_Net {H : Type} {enc : TypeId × Value → H} {w : World} {base fuel : Nat} {v0 v1 v2 v3 v4 v5 v6 v7 v8 v9 v10 v11 : Value} {y : DataW H × List MemPlace}
    (hf : DataW.trod enc Try.prog w base (fun _ => true) true fuel 31 [v0, v1, v2, v3, v4, v5, v6, v7, v8, v9, v10, v11] = some y) :
    ∃ u : NetA, [v0, v1, v2, v3, v4, v5, v6, v7, v8, v9, v10, v11] = u.lst ∧ NetOk w u.NA u.ns u.XA u.nx u.st := by
  obtain ⟨xs, n, _, _, _, hlen, hf⟩ := DataW.trod_struct Try.underlying31 hf
  have kw : Try.prog.cellsOf 28 = 4 := by kernel_rfl
  have ki : Try.prog.cellsOf 3 = 1 := by kernel_rfl
  have kn : Try.prog.cellsOf 29 = 1 := by kernel_rfl
  have ks : Try.prog.cellsOf 23 = 1 := by kernel_rfl
  have h0 := hf 0 _ rfl
  have h1 := hf 1 _ rfl
  have h2 := hf 2 _ rfl
  have h3 := hf 3 _ rfl
  have h4 := hf 4 _ rfl
  have h5 := hf 5 _ rfl
  obtain ⟨y0, q0⟩ := get_lt hlen (i := 0) (by decide)
  obtain ⟨y1, q1⟩ := get_lt hlen (i := 1) (by decide)
  obtain ⟨y2, q2⟩ := get_lt hlen (i := 2) (by decide)
  obtain ⟨y3, q3⟩ := get_lt hlen (i := 3) (by decide)
  obtain ⟨y4, q4⟩ := get_lt hlen (i := 4) (by decide)
  obtain ⟨y5, q5⟩ := get_lt hlen (i := 5) (by decide)
  rw [q0] at h0
  rw [q1] at h1
  rw [q2] at h2
  rw [q3] at h3
  rw [q4] at h4
  rw [q5] at h5
  clear hf q0 q1 q2 q3 q4 q5
  simp [kw, ki, kn, ks, Value.cells] at h0 h1 h2 h3 h4 h5
  obtain ⟨d0, d1, d2, d3, rfl, rfl, rfl, rfl⟩ := trod_Word h0
  obtain ⟨c0, c1, c2, c3, rfl, rfl, rfl, rfl⟩ := trod_Word h1
  obtain ⟨st, g2, _, w2⟩ := DataW.trod_int Try.underlying3 h2
  obtain ⟨u3, rfl, f3, l3, m3⟩ := trod_Nodes h3
  obtain ⟨u4, rfl, f4, l4⟩ := trod_Ints h4
  obtain ⟨out, g5, _, w5⟩ := DataW.trod_int Try.underlying3 h5
  simp at g2 g5
  subst g2 g5
  exact ⟨⟨d0, d1, d2, d3, c0, c1, c2, c3, st, out, u3.1, u4.1, u3.2.1, u4.2.1, u3.2.2, u4.2.2⟩, rfl, f3, f4, l3, l4, m3, i64_of_wf w2⟩
theorem open_Net {H : Type} {enc : TypeId × Value → H} {w : World} {base : Nat} {r : Reach} {b0 : Nat} {v : Value} {d : DataW H} {p : List MemPlace}
    (hv : Value.okWide Try.prog w r b0 31 v) (h : DataW.Trod enc Try.prog w base (fun _ => true) true 31 v d p) :
    ∃ u : NetA, v = u.val ∧ NetOk w u.NA u.ns u.XA u.nx u.st := by
  obtain ⟨cs, rfl, hsz⟩ := okWide_struct Try.underlying31 hv
  obtain ⟨v0, v1, v2, v3, v4, v5, v6, v7, v8, v9, v10, v11, rfl⟩ := array12 (hsz.trans (by kernel_rfl))
  obtain ⟨fuel, hf⟩ := h
  obtain ⟨u, e, hu⟩ := trod_Net hf
  refine ⟨u, ?_, hu⟩
  show Value.agg (List.toArray [v0, v1, v2, v3, v4, v5, v6, v7, v8, v9, v10, v11]) = _
  rw [e]; rfl
end Go.Proofs.Ytgabfdappeakiaa
end
