/- Several texts in one: Dc Oy. -/
import Derived.Test.YtdiflpbioohddaaDoorhDb
import Derived.Test.YtdiflpbioohddaaDoorhH4
import Derived.Test.YtdiflpbioohddaaDoorhCatoCb
import Derived.Test.YtdiflpbioohddaaDoorhCwtoS15
set_option linter.unusedVariables false
set_option linter.unusedSimpArgs false
section
namespace Go.Proofs.YtdiflpbioohddaaDoor
open Go.RowKit
def RetRT (w : World) (e : Ending) (w' : World) : Prop := ∃ (n : NetD) (NA : Option Addr) (nc : Nat) (XA : Option Addr) (xc : Nat), e = .returned (.agg (n.lst NA nc XA xc).toArray) ∧ n.ok = true ∧ (n.st ≤ 3 ∧ n.ns.length ≤ 4 ∧ ∀ ts ∈ n.ns, ts.length ≤ 4) ∧ NetAt w' n NA XA ∧ Below w.heap.size w w'
theorem small_valid {n : NetD} (hok : n.ok = true) (h : n.st ≤ 3 ∧ n.ns.length ≤ 4 ∧ ∀ ts ∈ n.ns, ts.length ≤ 4) : validB n.prg = true := by
  obtain ⟨h1, h2, h3⟩ := h
  obtain ⟨-, -, -, -, p5, -⟩ := netB_parts hok
  exact compD_valid hok (tiny_of (m := 4) h3 (by omega))
theorem raw_RT (u : RawA) (w : World) (h : RawOk w u) : Calls Tryd.prog 14 #[.agg u.lst.toArray] w (RetRT w) := by
  refine (raw_Net u.dn u.cn u.sn u.out u.wh u.WA u.XA _ u.wc _ u.xc u.ws u.nx w h.wires h.next rfl rfl h.n1 h.n2).mono ?_
  rintro e w' ⟨d0, d1, d2, d3, c0, c1, c2, c3, st, ns, nx, out, NA, nc, XA, xc, rfl, -, -, h4, h5, h6, h7, h8, h9, h10⟩
  obtain ⟨-, -, ⟨p1, p2⟩, -, p5, -⟩ := netB_parts h7
  exact ⟨⟨d0, d1, d2, d3, c0, c1, c2, c3, st, out, ns, nx⟩, NA, nc, XA, xc, rfl, h7, ⟨h8, h9, h10⟩, ⟨h4, h5, by show ns.length ≤ _; omega, by show nx.length ≤ _; omega, fun ts hts => by have := h10 ts hts; omega, ⟨by show _ ≤ st; omega, by show st ≤ _; omega⟩⟩, h6⟩
end Go.Proofs.YtdiflpbioohddaaDoor
end
section
set_option maxRecDepth 100000
namespace Go.Proofs.YtdiflpbioohddaaDoor
open Go.Joins Go.ChangeShapes Go.WideShapes Go.RowKit Go.Deep
theorem trod_cap {H : Type} {enc : TypeId × Value → H} {w : World} {base fuel : Nat} {spare : Nat → Bool} {held : Bool} {v : Value} {y : DataW H × List MemPlace}
    (hf : DataW.trod enc Tryd.prog w base spare held fuel 25 [v] = some y) : ∃ (A : Option Addr) (n c : Nat), v = .slice A n c ∧ n ≤ c := by
  rcases open_ints Tryd.underlying25 Tryd.underlying3 (by kernel_rfl) hf with ⟨hcs, _⟩ | ⟨x, l, c, zs, hcs, _, hl, _⟩
  · simp at hcs
    exact ⟨none, 0, 0, hcs, Nat.le_refl _⟩
  · simp at hcs
    exact ⟨some x, l, c, hcs, hl⟩
theorem array5m {α : Type} {cs : Array α} (h : cs.size = 5) : ∃ c0 c1 c2 c3 c4, cs = #[c0, c1, c2, c3, c4] := by
  obtain ⟨l⟩ := cs
  match l, h with
  | [c0, c1, c2, c3, c4], _ => exact ⟨c0, c1, c2, c3, c4, rfl⟩
theorem open_MacC {H : Type} {enc : TypeId × Value → H} {w : World} {base : Nat} {r : Reach} {b0 : Nat} {v : Value} {d : DataW H} {p : List MemPlace}
    (hv : Value.okWide Tryd.prog w r b0 32 v) (h : DataW.Trod enc Tryd.prog w base (fun _ => true) true 32 v d p) :
    ∃ x : MacA, v = x.v ∧ (MacAt w x ∧ MacLen x.m ∧ x.m.mem.length ≤ x.mc) := by
  obtain ⟨cs, rfl, hsz⟩ := okWide_struct Tryd.underlying32 hv
  obtain ⟨v0, v1, v2, v3, v4, rfl⟩ := array5m (hsz.trans (by kernel_rfl))
  obtain ⟨fuel, hf⟩ := h
  obtain ⟨xs, n, _, _, _, hlen, hf⟩ := DataW.trod_struct Tryd.underlying32 hf
  have ki : Tryd.prog.cellsOf 3 = 1 := by kernel_rfl
  have ks : Tryd.prog.cellsOf 25 = 1 := by kernel_rfl
  have h0 := hf 0 _ rfl
  have h1 := hf 1 _ rfl
  have h2 := hf 2 _ rfl
  have h3 := hf 3 _ rfl
  have h4 := hf 4 _ rfl
  obtain ⟨y0, q0⟩ := get_lt hlen (i := 0) (by decide)
  obtain ⟨y1, q1⟩ := get_lt hlen (i := 1) (by decide)
  obtain ⟨y2, q2⟩ := get_lt hlen (i := 2) (by decide)
  obtain ⟨y3, q3⟩ := get_lt hlen (i := 3) (by decide)
  obtain ⟨y4, q4⟩ := get_lt hlen (i := 4) (by decide)
  rw [q0] at h0
  rw [q1] at h1
  rw [q2] at h2
  rw [q3] at h3
  rw [q4] at h4
  clear hf q0 q1 q2 q3 q4
  simp [ki, ks, Value.cells] at h0 h1 h2 h3 h4
  obtain ⟨u0, rfl, f0, l0⟩ := trod_Ints h0
  obtain ⟨B1, n1, c1, e1, hc1⟩ := trod_cap h1
  obtain ⟨u1, rfl, f1, l1⟩ := trod_Ints h1
  injection e1 with _ e2 e3
  rw [← e2, ← e3] at hc1
  obtain ⟨u2, rfl, f2, l2⟩ := trod_Ints h2
  obtain ⟨cy, g3, _, w3⟩ := DataW.trod_int Tryd.underlying3 h3
  obtain ⟨st, g4, _, w4⟩ := DataW.trod_int Tryd.underlying3 h4
  simp at g3 g4
  subst g3 g4
  exact ⟨⟨⟨u0.2.2, u1.2.2, u2.2.2, cy, st⟩, u0.1, u1.1, u2.1, u0.2.1, u1.2.1, u2.2.1⟩, rfl, ⟨f0, f1, f2⟩, ⟨l0, l1, l2⟩, hc1⟩
end Go.Proofs.YtdiflpbioohddaaDoor
end
