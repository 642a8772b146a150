/- How an argument is opened: a stream, an event. -/
import Derived.Test.YtgabfdappeakiaaPe
import Derived.Test.YtgabfdappeakiaaTg
set_option linter.unusedVariables false
set_option linter.unusedSimpArgs false
set_option maxRecDepth 100000
namespace Go.Proofs.Ytgabfdappeakiaa
open Go.Joins Go.ChangeShapes Go.WideShapes Go.RowKit Go.Deep

theorem array29 {α : Type} {cs : Array α} (h : cs.size = 29) : ∃ c0 c1 c2 c3 c4 c5 c6 c7 c8 c9 c10 c11 c12 c13 c14 c15 c16 c17 c18 c19 c20 c21 c22 c23 c24 c25 c26 c27 c28, cs = #[c0, c1, c2, c3, c4, c5, c6, c7, c8, c9, c10, c11, c12, c13, c14, c15, c16, c17, c18, c19, c20, c21, c22, c23, c24, c25, c26, c27, c28] := by
  obtain ⟨l⟩ := cs
  match l, h with
  | [c0, c1, c2, c3, c4, c5, c6, c7, c8, c9, c10, c11, c12, c13, c14, c15, c16, c17, c18, c19, c20, c21, c22, c23, c24, c25, c26, c27, c28], _ => exact ⟨c0, c1, c2, c3, c4, c5, c6, c7, c8, c9, c10, c11, c12, c13, c14, c15, c16, c17, c18, c19, c20, c21, c22, c23, c24, c25, c26, c27, c28, rfl⟩
theorem array15 {α : Type} {cs : Array α} (h : cs.size = 15) : ∃ c0 c1 c2 c3 c4 c5 c6 c7 c8 c9 c10 c11 c12 c13 c14, cs = #[c0, c1, c2, c3, c4, c5, c6, c7, c8, c9, c10, c11, c12, c13, c14] := by
  obtain ⟨l⟩ := cs
  match l, h with
  | [c0, c1, c2, c3, c4, c5, c6, c7, c8, c9, c10, c11, c12, c13, c14], _ => exact ⟨c0, c1, c2, c3, c4, c5, c6, c7, c8, c9, c10, c11, c12, c13, c14, rfl⟩
/-- A network that was opened, as plain data. -/
def NetA.d (u : NetA) : NetD := ⟨u.d0, u.d1, u.d2, u.d3, u.c0, u.c1, u.c2, u.c3, u.st, u.out, u.ns, u.nx⟩
theorem NetA.lst_d (u : NetA) : u.lst = u.d.lst u.NA u.nc u.XA u.xc := rfl
theorem NetA.at {u : NetA} {w : World} (h : NetOk w u.NA u.ns u.XA u.nx u.st) : NetAt w u.d u.NA u.XA := ⟨h.nodes, h.next, h.n1, h.n2, h.n3, h.st⟩
theorem open_Stream {H : Type} {enc : TypeId × Value → H} {w : World} {base : Nat} {r : Reach} {b0 : Nat} {v : Value} {d : DataW H} {p : List MemPlace}
    (hv : Value.okWide Try.prog w r b0 39 v) (h : DataW.Trod enc Try.prog w base (fun _ => true) true 39 v d p) :
    ∃ u : StrA, v = u.v ∧ StrAt w u := by
  obtain ⟨cs, rfl, hsz⟩ := okWide_struct Try.underlying39 hv
  obtain ⟨v0, v1, v2, v3, v4, v5, v6, v7, v8, v9, v10, v11, v12, v13, v14, v15, v16, v17, v18, v19, v20, v21, v22, v23, v24, v25, v26, v27, v28, rfl⟩ := array29 (hsz.trans (by kernel_rfl))
  obtain ⟨fuel, hf⟩ := h
  obtain ⟨xs, n, _, _, _, hlen, hf⟩ := DataW.trod_struct Try.underlying39 hf
  have kn : Try.prog.cellsOf 31 = 12 := by kernel_rfl
  have ki : Try.prog.cellsOf 3 = 1 := by kernel_rfl
  have ks : Try.prog.cellsOf 23 = 1 := by kernel_rfl
  have h0 := hf 0 _ rfl
  have h1 := hf 1 _ rfl
  have h2 := hf 2 _ rfl
  have h3 := hf 3 _ rfl
  have h4 := hf 4 _ rfl
  have h5 := hf 5 _ rfl
  have h6 := hf 6 _ rfl
  obtain ⟨y0, q0⟩ := get_lt hlen (i := 0) (by decide)
  obtain ⟨y1, q1⟩ := get_lt hlen (i := 1) (by decide)
  obtain ⟨y2, q2⟩ := get_lt hlen (i := 2) (by decide)
  obtain ⟨y3, q3⟩ := get_lt hlen (i := 3) (by decide)
  obtain ⟨y4, q4⟩ := get_lt hlen (i := 4) (by decide)
  obtain ⟨y5, q5⟩ := get_lt hlen (i := 5) (by decide)
  obtain ⟨y6, q6⟩ := get_lt hlen (i := 6) (by decide)
  rw [q0] at h0
  rw [q1] at h1
  rw [q2] at h2
  rw [q3] at h3
  rw [q4] at h4
  rw [q5] at h5
  rw [q6] at h6
  clear hf q0 q1 q2 q3 q4 q5 q6
  simp [kn, ki, ks, Value.cells] at h0 h1 h2 h3 h4 h5 h6
  obtain ⟨u0, e0, f0⟩ := trod_Net h0
  obtain ⟨u1, e1, f1⟩ := trod_Net h1
  obtain ⟨u2, rfl, f2, l2⟩ := trod_Ints h2
  obtain ⟨u3, rfl, f3, l3⟩ := trod_Ints h3
  obtain ⟨x4, g4, _, w4⟩ := DataW.trod_int Try.underlying3 h4
  obtain ⟨x5, g5, _, w5⟩ := DataW.trod_int Try.underlying3 h5
  obtain ⟨x6, g6, _, w6⟩ := DataW.trod_int Try.underlying3 h6
  simp at g4 g5 g6
  subst g4 g5 g6
  simp only [NetA.lst, List.cons.injEq, and_true] at e0
  obtain ⟨rfl, rfl, rfl, rfl, rfl, rfl, rfl, rfl, rfl, rfl, rfl, rfl⟩ := e0
  simp only [NetA.lst, List.cons.injEq, and_true] at e1
  obtain ⟨rfl, rfl, rfl, rfl, rfl, rfl, rfl, rfl, rfl, rfl, rfl, rfl⟩ := e1
  exact ⟨⟨⟨u0.d, u1.d, u2.2.2, u3.2.2, x4, x5, x6⟩, u0.NA, u0.XA, u1.NA, u1.XA, u2.1, u3.1, u0.nc, u0.xc, u1.nc, u1.xc, u2.2.1, u3.2.1⟩, rfl, NetA.at f0, NetA.at f1, f2, f3, l2, l3⟩
theorem open_Event {H : Type} {enc : TypeId × Value → H} {w : World} {base : Nat} {r : Reach} {b0 : Nat} {v : Value} {d : DataW H} {p : List MemPlace}
    (hv : Value.okWide Try.prog w r b0 33 v) (h : DataW.Trod enc Try.prog w base (fun _ => true) true 33 v d p) :
    ∃ e : EvA, v = e.v ∧ EvAt w e := by
  obtain ⟨cs, rfl, hsz⟩ := okWide_struct Try.underlying33 hv
  obtain ⟨v0, v1, v2, v3, v4, v5, v6, v7, v8, v9, v10, v11, v12, v13, v14, rfl⟩ := array15 (hsz.trans (by kernel_rfl))
  obtain ⟨fuel, hf⟩ := h
  obtain ⟨xs, n, _, _, _, hlen, hf⟩ := DataW.trod_struct Try.underlying33 hf
  have kn : Try.prog.cellsOf 31 = 12 := by kernel_rfl
  have ki : Try.prog.cellsOf 3 = 1 := by kernel_rfl
  have ks : Try.prog.cellsOf 23 = 1 := by kernel_rfl
  have h0 := hf 0 _ rfl
  have h1 := hf 1 _ rfl
  have h2 := hf 2 _ rfl
  have h3 := hf 3 _ rfl
  obtain ⟨y0, q0⟩ := get_lt hlen (i := 0) (by decide)
  obtain ⟨y1, q1⟩ := get_lt hlen (i := 1) (by decide)
  obtain ⟨y2, q2⟩ := get_lt hlen (i := 2) (by decide)
  obtain ⟨y3, q3⟩ := get_lt hlen (i := 3) (by decide)
  rw [q0] at h0
  rw [q1] at h1
  rw [q2] at h2
  rw [q3] at h3
  clear hf q0 q1 q2 q3
  simp [kn, ki, ks, Value.cells] at h0 h1 h2 h3
  obtain ⟨x0, g0, _, w0⟩ := DataW.trod_int Try.underlying3 h0
  obtain ⟨u1, rfl, f1, l1⟩ := trod_Ints h1
  obtain ⟨u2, e2, f2⟩ := trod_Net h2
  obtain ⟨x3, g3, _, w3⟩ := DataW.trod_int Try.underlying3 h3
  simp at g0 g3
  subst g0 g3
  simp only [NetA.lst, List.cons.injEq, and_true] at e2
  obtain ⟨rfl, rfl, rfl, rfl, rfl, rfl, rfl, rfl, rfl, rfl, rfl, rfl⟩ := e2
  exact ⟨⟨x0, x3, u2.d, u1.2.2, u2.NA, u2.XA, u1.1, u2.nc, u2.xc, u1.2.1⟩, rfl, NetA.at f2, f1, l1⟩
end Go.Proofs.Ytgabfdappeakiaa
