/- Several texts in one: Oh Or Ot Y6. -/
import Derived.Test.YtdiflpbioohddaaDoorhG9toG10
import Derived.Test.YtdiflpbioohddaaDoorhCatoCb
import Derived.Deep.Slices
import Derived.Lib.SmallJoins
import Derived.Test.YtdiflpbioohddaaDoorhH4
import Derived.Test.YtdiflpbioohddaaDoorhS3toCr
import Derived.Test.YtdiflpbioohddaaDoorhJ
import Derived.Laws.CopyOwn
import Derived.Laws.Tables
import Derived.Laws.EntriesVeiled
import Derived.Test.YtdiflpbioohddaaDoorhE5toS1
import Derived.Test.YtdiflpbioohddaaDoorhS8toY3
set_option linter.unusedVariables false
set_option linter.unusedSimpArgs false
section
set_option maxRecDepth 100000
namespace Go.Proofs.YtdiflpbioohddaaDoor
open Go.Joins Go.ChangeShapes Go.WideShapes Go.RowKit Go.Deep
theorem array12 {α : Type} {cs : Array α} (h : cs.size = 12) : ∃ c0 c1 c2 c3 c4 c5 c6 c7 c8 c9 c10 c11, cs = #[c0, c1, c2, c3, c4, c5, c6, c7, c8, c9, c10, c11] := by
  obtain ⟨l⟩ := cs
  match l, h with
  | [c0, c1, c2, c3, c4, c5, c6, c7, c8, c9, c10, c11], _ => exact ⟨c0, c1, c2, c3, c4, c5, c6, c7, c8, c9, c10, c11, rfl⟩
theorem array7 {α : Type} {cs : Array α} (h : cs.size = 7) : ∃ c0 c1 c2 c3 c4 c5 c6, cs = #[c0, c1, c2, c3, c4, c5, c6] := by
  obtain ⟨l⟩ := cs
  match l, h with
  | [c0, c1, c2, c3, c4, c5, c6], _ => exact ⟨c0, c1, c2, c3, c4, c5, c6, rfl⟩
theorem trod_Terms {H : Type} {enc : TypeId × Value → H} {w : World} {base fuel : Nat} {v : Value} {y : DataW H × List MemPlace}
    (hf : DataW.trod enc Tryd.prog w base (fun _ => true) true fuel 34 [v] = some y) :
    ∃ u : Option Addr × Nat × List (Int × Int), v = .slice u.1 u.2.2.length u.2.1 ∧ TermsAt w u.1 u.2.2 ∧ u.2.2.length ≤ 9223372036854775807 := by
  obtain ⟨u, e, h, hl⟩ := open_rowsR (β := Int × Int) (k := 2) Tryd.underlying34 (by kernel_rfl)
    (fun a t => a.block < w.heap.size ∧ w.cell? a = some (.int .i64 t.1) ∧ w.cell? ⟨a.block, a.off + 1, none⟩ = some (.int .i64 t.2) ∧ I64 t.1 ∧ I64 t.2)
    (fun m a cs y hc h => by
      obtain ⟨_, hlen, hcell⟩ := World.cells?_some hc
      have hb := World.cells?_block hc (by decide)
      obtain ⟨y0, y1, k, _, _, h0, h1⟩ := trod_struct2 Tryd.underlying80 h
      have k2 : Tryd.prog.cellsOf 3 = 1 := by kernel_rfl
      match cs, hlen with
      | [v0, v1], _ =>
        simp [k2] at h0 h1
        have e0 := hcell 0 (by omega)
        have e1 := hcell 1 (by omega)
        obtain ⟨x0, g0, _, w0⟩ := DataW.trod_int Tryd.underlying3 h0
        obtain ⟨x1, g1, _, w1⟩ := DataW.trod_int Tryd.underlying3 h1
        simp at g0 g1
        subst g0 g1
        exact ⟨(x0, x1), hb, by simpa [Addr.add] using e0, by simpa [Addr.add] using e1, i64_of_wf w0, i64_of_wf w1⟩) hf
  refine ⟨u, e, fun k t hk => ?_, hl⟩
  obtain ⟨ad, e, hb, h⟩ := h k t hk
  rw [block_add] at hb
  exact ⟨ad, e, hb, h⟩
theorem trod_Nodes {H : Type} {enc : TypeId × Value → H} {w : World} {base fuel : Nat} {v : Value} {y : DataW H × List MemPlace}
    (hf : DataW.trod enc Tryd.prog w base (fun _ => true) true fuel 24 [v] = some y) :
    ∃ u : Option Addr × Nat × List (List (Int × Int)), v = .slice u.1 u.2.2.length u.2.1 ∧ NodesAt w u.1 u.2.2 ∧ u.2.2.length ≤ 9223372036854775807 ∧ ∀ ts ∈ u.2.2, ts.length ≤ 9223372036854775807 := by
  obtain ⟨u, e, h, hl⟩ := open_rowsR (β := List (Int × Int)) (k := 1) Tryd.underlying24 (by kernel_rfl)
    (fun a ts => a.block < w.heap.size ∧ ∃ B c, w.cell? a = some (.slice B ts.length c) ∧ TermsAt w B ts ∧ ts.length ≤ 9223372036854775807)
    (fun m a cs y hc h => by
      obtain ⟨_, hlen, hcell⟩ := World.cells?_some hc
      have hb := World.cells?_block hc (by decide)
      obtain ⟨y0, k, _, _, h0⟩ := trod_struct1 Tryd.underlying36 h
      have k2 : Tryd.prog.cellsOf 34 = 1 := by kernel_rfl
      match cs, hlen with
      | [v0], _ =>
        simp [k2] at h0
        have e0 := hcell 0 (by omega)
        obtain ⟨u, rfl, f, hl⟩ := trod_Terms h0
        exact ⟨u.2.2, hb, u.1, u.2.1, by simpa [Addr.add] using e0, f, hl⟩) hf
  refine ⟨u, e, fun k t hk => ?_, hl, fun ts hm => ?_⟩
  · obtain ⟨ad, e, hb, B, c, h, ht, _⟩ := h k t hk
    rw [block_add] at hb
    rw [Nat.mul_one] at h
    exact ⟨ad, B, c, e, hb, h, ht⟩
  · obtain ⟨k, hk⟩ := List.getElem?_of_mem hm
    obtain ⟨_, _, _, _, _, _, _, h⟩ := h k ts hk
    exact h
theorem trod_Word {H : Type} {enc : TypeId × Value → H} {w : World} {base fuel : Nat} {v0 v1 v2 v3 : Value} {y : DataW H × List MemPlace}
    (hf : DataW.trod enc Tryd.prog w base (fun _ => true) true fuel 23 [v0, v1, v2, v3] = some y) :
    ∃ a b c d : Int, v0 = .int .i64 a ∧ v1 = .int .i64 b ∧ v2 = .int .i64 c ∧ v3 = .int .i64 d := by
  obtain ⟨y0, y1, y2, y3, k, _, _, h0, h1, h2, h3⟩ := trod_struct4 Tryd.underlying23 hf
  have k2 : Tryd.prog.cellsOf 3 = 1 := by kernel_rfl
  simp [k2] at h0 h1 h2 h3
  obtain ⟨x0, g0, _, w0⟩ := DataW.trod_int Tryd.underlying3 h0
  obtain ⟨x1, g1, _, w1⟩ := DataW.trod_int Tryd.underlying3 h1
  obtain ⟨x2, g2, _, w2⟩ := DataW.trod_int Tryd.underlying3 h2
  obtain ⟨x3, g3, _, w3⟩ := DataW.trod_int Tryd.underlying3 h3
  simp at g0 g1 g2 g3
  exact ⟨x0, x1, x2, x3, g0, g1, g2, g3⟩
structure NetA where
  (d0 d1 d2 d3 c0 c1 c2 c3 st out : Int)
  (NA XA : Option Addr)
  (nc xc : Nat)
  (ns : List (List (Int × Int)))
  (nx : List Int)
def NetA.val (u : NetA) : Value := netV u.d0 u.d1 u.d2 u.d3 u.c0 u.c1 u.c2 u.c3 u.st u.NA u.ns.length u.nc u.XA u.nx.length u.xc u.out
def NetA.lst (u : NetA) : List Value := [.int .i64 u.d0, .int .i64 u.d1, .int .i64 u.d2, .int .i64 u.d3, .int .i64 u.c0, .int .i64 u.c1, .int .i64 u.c2, .int .i64 u.c3, .int .i64 u.st, .slice u.NA u.ns.length u.nc, .slice u.XA u.nx.length u.xc, .int .i64 u.out]
theorem trod_Net {H : Type} {enc : TypeId × Value → H} {w : World} {base fuel : Nat} {v0 v1 v2 v3 v4 v5 v6 v7 v8 v9 v10 v11 : Value} {y : DataW H × List MemPlace}
    (hf : DataW.trod enc Tryd.prog w base (fun _ => true) true fuel 27 [v0, v1, v2, v3, v4, v5, v6, v7, v8, v9, v10, v11] = some y) :
    ∃ u : NetA, [v0, v1, v2, v3, v4, v5, v6, v7, v8, v9, v10, v11] = u.lst ∧ NetOk w u.NA u.ns u.XA u.nx u.st := by
  obtain ⟨xs, n, _, _, _, hlen, hf⟩ := DataW.trod_struct Tryd.underlying27 hf
  have kw : Tryd.prog.cellsOf 23 = 4 := by kernel_rfl
  have ki : Tryd.prog.cellsOf 3 = 1 := by kernel_rfl
  have kn : Tryd.prog.cellsOf 24 = 1 := by kernel_rfl
  have ks : Tryd.prog.cellsOf 25 = 1 := by kernel_rfl
  have h0 := hf 0 _ rfl
  have h1 := hf 1 _ rfl
  have h2 := hf 2 _ rfl
  have h3 := hf 3 _ rfl
  have h4 := hf 4 _ rfl
  have h5 := hf 5 _ rfl
  obtain ⟨y0, q0⟩ := get_lt hlen (i := 0) (by decide)
  obtain ⟨y1, q1⟩ := get_lt hlen (i := 1) (by decide)
  obtain ⟨y2, q2⟩ := get_lt hlen (i := 2) (by decide)
  obtain ⟨y3, q3⟩ := get_lt hlen (i := 3) (by decide)
  obtain ⟨y4, q4⟩ := get_lt hlen (i := 4) (by decide)
  obtain ⟨y5, q5⟩ := get_lt hlen (i := 5) (by decide)
  rw [q0] at h0
  rw [q1] at h1
  rw [q2] at h2
  rw [q3] at h3
  rw [q4] at h4
  rw [q5] at h5
  clear hf q0 q1 q2 q3 q4 q5
  simp [kw, ki, kn, ks, Value.cells] at h0 h1 h2 h3 h4 h5
  obtain ⟨d0, d1, d2, d3, rfl, rfl, rfl, rfl⟩ := trod_Word h0
  obtain ⟨c0, c1, c2, c3, rfl, rfl, rfl, rfl⟩ := trod_Word h1
  obtain ⟨st, g2, _, w2⟩ := DataW.trod_int Tryd.underlying3 h2
  obtain ⟨u3, rfl, f3, l3, m3⟩ := trod_Nodes h3
  obtain ⟨u4, rfl, f4, l4⟩ := trod_Ints h4
  obtain ⟨out, g5, _, w5⟩ := DataW.trod_int Tryd.underlying3 h5
  simp at g2 g5
  subst g2 g5
  exact ⟨⟨d0, d1, d2, d3, c0, c1, c2, c3, st, out, u3.1, u4.1, u3.2.1, u4.2.1, u3.2.2, u4.2.2⟩, rfl, f3, f4, l3, l4, m3, i64_of_wf w2⟩
theorem open_Net {H : Type} {enc : TypeId × Value → H} {w : World} {base : Nat} {r : Reach} {b0 : Nat} {v : Value} {d : DataW H} {p : List MemPlace}
    (hv : Value.okWide Tryd.prog w r b0 27 v) (h : DataW.Trod enc Tryd.prog w base (fun _ => true) true 27 v d p) :
    ∃ u : NetA, v = u.val ∧ NetOk w u.NA u.ns u.XA u.nx u.st := by
  obtain ⟨cs, rfl, hsz⟩ := okWide_struct Tryd.underlying27 hv
  obtain ⟨v0, v1, v2, v3, v4, v5, v6, v7, v8, v9, v10, v11, rfl⟩ := array12 (hsz.trans (by kernel_rfl))
  obtain ⟨fuel, hf⟩ := h
  obtain ⟨u, e, hu⟩ := trod_Net hf
  refine ⟨u, ?_, hu⟩
  show Value.agg (List.toArray [v0, v1, v2, v3, v4, v5, v6, v7, v8, v9, v10, v11]) = _
  rw [e]; rfl
end Go.Proofs.YtdiflpbioohddaaDoor
end
section
set_option maxRecDepth 100000
namespace Go.Proofs.YtdiflpbioohddaaDoor
open Go.Joins Go.ChangeShapes Go.WideShapes Go.RowKit Go.Deep
theorem trod_WiresL {H : Type} {enc : TypeId × Value → H} {w : World} {base fuel : Nat} {v : Value} {y : DataW H × List MemPlace}
    (hf : DataW.trod enc Tryd.prog w base (fun _ => true) true fuel 28 [v] = some y) :
    ∃ u : Option Addr × Nat × List (List Int × List Int), v = .slice u.1 u.2.2.length u.2.1 ∧ WiresAt w u.1 u.2.2 ∧ u.2.2.length ≤ 9223372036854775807 := by
  obtain ⟨u, e, h, hl⟩ := open_rowsR (β := List Int × List Int) (k := 2) Tryd.underlying28 (by kernel_rfl)
    (fun a x => a.block < w.heap.size ∧ ∃ B b C c, w.cell? a = some (.slice B x.1.length b) ∧ w.cell? ⟨a.block, a.off + 1, none⟩ = some (.slice C x.2.length c) ∧ Ints w B x.1 ∧ Ints w C x.2 ∧ x.1.length ≤ 9223372036854775807 ∧ x.2.length ≤ 9223372036854775807)
    (fun m a cs y hc h => by
      obtain ⟨_, hlen, hcell⟩ := World.cells?_some hc
      have hb := World.cells?_block hc (by decide)
      obtain ⟨y0, y1, k, _, _, h0, h1⟩ := trod_struct2 Tryd.underlying94 h
      have k2 : Tryd.prog.cellsOf 25 = 1 := by kernel_rfl
      match cs, hlen with
      | [v0, v1], _ =>
        simp [k2] at h0 h1
        have e0 := hcell 0 (by omega)
        have e1 := hcell 1 (by omega)
        obtain ⟨u0, rfl, f0, l0⟩ := trod_Ints h0
        obtain ⟨u1, rfl, f1, l1⟩ := trod_Ints h1
        exact ⟨(u0.2.2, u1.2.2), hb, u0.1, u0.2.1, u1.1, u1.2.1, by simpa [Addr.add] using e0, by simpa [Addr.add] using e1, f0, f1, l0, l1⟩) hf
  refine ⟨u, e, fun k t hk => ?_, hl⟩
  obtain ⟨ad, e, hb, B, b, C, c, h⟩ := h k t hk
  rw [block_add] at hb
  exact ⟨ad, B, b, C, c, e, hb, h⟩
structure RawA where
  (dn cn sn out : Int)
  (wh : Bool)
  (WA XA : Option Addr)
  (wc xc : Nat)
  (ws : List (List Int × List Int))
  (nx : List Int)
def RawA.val (u : RawA) : Value := rawV u.dn u.cn u.sn u.WA u.ws.length u.wc u.XA u.nx.length u.xc u.out u.wh
structure RawOk (w : World) (u : RawA) : Prop where
  wires : WiresAt w u.WA u.ws
  next : Ints w u.XA u.nx
  n1 : u.ws.length ≤ 9223372036854775807
  n2 : u.nx.length ≤ 9223372036854775807
theorem open_Raw {H : Type} {enc : TypeId × Value → H} {w : World} {base : Nat} {r : Reach} {b0 : Nat} {v : Value} {d : DataW H} {p : List MemPlace}
    (hv : Value.okWide Tryd.prog w r b0 30 v) (h : DataW.Trod enc Tryd.prog w base (fun _ => true) true 30 v d p) :
    ∃ u : RawA, v = u.val ∧ RawOk w u := by
  obtain ⟨cs, rfl, hsz⟩ := okWide_struct Tryd.underlying30 hv
  obtain ⟨v0, v1, v2, v3, v4, v5, v6, rfl⟩ := array7 (hsz.trans (by kernel_rfl))
  obtain ⟨fuel, hf⟩ := h
  obtain ⟨xs, n, _, _, _, hlen, hf⟩ := DataW.trod_struct Tryd.underlying30 hf
  have kb : Tryd.prog.cellsOf 4 = 1 := by kernel_rfl
  have ki : Tryd.prog.cellsOf 3 = 1 := by kernel_rfl
  have kn : Tryd.prog.cellsOf 28 = 1 := by kernel_rfl
  have ks : Tryd.prog.cellsOf 25 = 1 := by kernel_rfl
  have h0 := hf 0 _ rfl
  have h1 := hf 1 _ rfl
  have h2 := hf 2 _ rfl
  have h3 := hf 3 _ rfl
  have h4 := hf 4 _ rfl
  have h5 := hf 5 _ rfl
  have h6 := hf 6 _ rfl
  obtain ⟨y0, q0⟩ := get_lt hlen (i := 0) (by decide)
  obtain ⟨y1, q1⟩ := get_lt hlen (i := 1) (by decide)
  obtain ⟨y2, q2⟩ := get_lt hlen (i := 2) (by decide)
  obtain ⟨y3, q3⟩ := get_lt hlen (i := 3) (by decide)
  obtain ⟨y4, q4⟩ := get_lt hlen (i := 4) (by decide)
  obtain ⟨y5, q5⟩ := get_lt hlen (i := 5) (by decide)
  obtain ⟨y6, q6⟩ := get_lt hlen (i := 6) (by decide)
  rw [q0] at h0
  rw [q1] at h1
  rw [q2] at h2
  rw [q3] at h3
  rw [q4] at h4
  rw [q5] at h5
  rw [q6] at h6
  clear hf q0 q1 q2 q3 q4 q5 q6
  simp [kb, ki, kn, ks, Value.cells] at h0 h1 h2 h3 h4 h5 h6
  obtain ⟨dn, g0, _, w0⟩ := DataW.trod_int Tryd.underlying3 h0
  obtain ⟨cn, g1, _, w1⟩ := DataW.trod_int Tryd.underlying3 h1
  obtain ⟨sn, g2, _, w2⟩ := DataW.trod_int Tryd.underlying3 h2
  obtain ⟨u3, rfl, f3, l3⟩ := trod_WiresL h3
  obtain ⟨u4, rfl, f4, l4⟩ := trod_Ints h4
  obtain ⟨out, g5, _, w5⟩ := DataW.trod_int Tryd.underlying3 h5
  obtain ⟨wh, g6, _⟩ := DataW.trod_bool Tryd.underlying4 h6
  simp at g0 g1 g2 g5 g6
  subst g0 g1 g2 g5 g6
  exact ⟨⟨dn, cn, sn, out, wh, u3.1, u4.1, u3.2.1, u4.2.1, u3.2.2, u4.2.2⟩, rfl, f3, f4, l3, l4⟩
end Go.Proofs.YtdiflpbioohddaaDoor
end
section
set_option maxRecDepth 100000
namespace Go.Proofs.YtdiflpbioohddaaDoor
open Go.Joins Go.ChangeShapes Go.WideShapes Go.RowKit Go.Deep
def NetA.d (u : NetA) : NetD := ⟨u.d0, u.d1, u.d2, u.d3, u.c0, u.c1, u.c2, u.c3, u.st, u.out, u.ns, u.nx⟩
theorem NetA.at {u : NetA} {w : World} (h : NetOk w u.NA u.ns u.XA u.nx u.st) : NetAt w u.d u.NA u.XA := ⟨h.nodes, h.next, h.n1, h.n2, h.n3, h.st⟩
end Go.Proofs.YtdiflpbioohddaaDoor
end
section
namespace Go.Proofs.YtdiflpbioohddaaDoor
open Go.RowKit
def RawA.lst (u : RawA) : List Value := [.int .i64 u.dn, .int .i64 u.cn, .int .i64 u.sn, .slice u.WA u.ws.length u.wc, .slice u.XA u.nx.length u.xc, .int .i64 u.out, .bool u.wh]
theorem RawOk.grow {w w' : World} {u : RawA} (h : RawOk w u) (hb : Below w.heap.size w w') : RawOk w' u := ⟨h.wires.grow hb, h.next.grow hb, h.n1, h.n2⟩
theorem ld_raw {ops : Array Oper} {rest : List Oper} {o : Oper} {a : Act} {Q : Exit → Act → World → Prop} {w : World} {u : RawA} {g : Nat} (hb : Box w g u.lst) (hgd : o.guard = none) (x : Operand) (ho : o.op = .load 30 x) (hx : a.eval x = .pointer (some ⟨g, 0, none⟩)) (h : wpList Tryd.prog ops Q rest (a.put o.dst (.agg u.lst.toArray)) w) : wpList Tryd.prog ops Q (o :: rest) a w :=
  wp_ld hgd _ x ho g 0 hx hb u.lst (fun j v hj => by rw [Nat.zero_add]; exact hj) _ Tryd.underlying30 rfl (by kernel_rfl) h
end Go.Proofs.YtdiflpbioohddaaDoor
end
