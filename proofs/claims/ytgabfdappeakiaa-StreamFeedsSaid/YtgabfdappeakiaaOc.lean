/- How an argument is opened: a slice of changes. -/
import Derived.Test.YtgabfdappeakiaaOr
import Derived.Test.YtgabfdappeakiaaYe
set_option linter.unusedVariables false
set_option linter.unusedSimpArgs false
set_option maxRecDepth 100000
namespace Go.Proofs.Ytgabfdappeakiaa
open Go.Joins Go.ChangeShapes Go.WideShapes Go.RowKit Go.Deep

theorem spot_none {w : World} {a : Addr} {v : Value} (h : w.cell? a = some v) : a.spot = none := by
  unfold World.cell? at h
  split at h
  · cases hs : a.spot with
    | none => rfl
    | some s => rw [hs] at h; simp at h
  · cases h
instance : Inhabited ChgA := ⟨⟨⟨0, 0, 0, 0, false, none, none, 0, 0, [], []⟩, 0, none, 0, []⟩⟩
theorem trod_Raw {H : Type} {enc : TypeId × Value → H} {w : World} {base fuel : Nat} {v0 v1 v2 v3 v4 v5 v6 : Value} {y : DataW H × List MemPlace}
    (hf : DataW.trod enc Try.prog w base (fun _ => true) true fuel 25 [v0, v1, v2, v3, v4, v5, v6] = some y) :
    ∃ u : RawA, [v0, v1, v2, v3, v4, v5, v6] = u.lst ∧ RawOk w u := by
  obtain ⟨xs, n, _, _, _, hlen, hf⟩ := DataW.trod_struct Try.underlying25 hf
  have kb : Try.prog.cellsOf 4 = 1 := by kernel_rfl
  have ki : Try.prog.cellsOf 3 = 1 := by kernel_rfl
  have kn : Try.prog.cellsOf 22 = 1 := by kernel_rfl
  have ks : Try.prog.cellsOf 23 = 1 := by kernel_rfl
  have h0 := hf 0 _ rfl
  have h1 := hf 1 _ rfl
  have h2 := hf 2 _ rfl
  have h3 := hf 3 _ rfl
  have h4 := hf 4 _ rfl
  have h5 := hf 5 _ rfl
  have h6 := hf 6 _ rfl
  obtain ⟨y0, q0⟩ := get_lt hlen (i := 0) (by decide)
  obtain ⟨y1, q1⟩ := get_lt hlen (i := 1) (by decide)
  obtain ⟨y2, q2⟩ := get_lt hlen (i := 2) (by decide)
  obtain ⟨y3, q3⟩ := get_lt hlen (i := 3) (by decide)
  obtain ⟨y4, q4⟩ := get_lt hlen (i := 4) (by decide)
  obtain ⟨y5, q5⟩ := get_lt hlen (i := 5) (by decide)
  obtain ⟨y6, q6⟩ := get_lt hlen (i := 6) (by decide)
  rw [q0] at h0
  rw [q1] at h1
  rw [q2] at h2
  rw [q3] at h3
  rw [q4] at h4
  rw [q5] at h5
  rw [q6] at h6
  clear hf q0 q1 q2 q3 q4 q5 q6
  simp [kb, ki, kn, ks, Value.cells] at h0 h1 h2 h3 h4 h5 h6
  obtain ⟨dn, g0, _, w0⟩ := DataW.trod_int Try.underlying3 h0
  obtain ⟨cn, g1, _, w1⟩ := DataW.trod_int Try.underlying3 h1
  obtain ⟨sn, g2, _, w2⟩ := DataW.trod_int Try.underlying3 h2
  obtain ⟨u3, rfl, f3, l3⟩ := trod_WiresL h3
  obtain ⟨u4, rfl, f4, l4⟩ := trod_Ints h4
  obtain ⟨out, g5, _, w5⟩ := DataW.trod_int Try.underlying3 h5
  obtain ⟨wh, g6, _⟩ := DataW.trod_bool Try.underlying4 h6
  simp at g0 g1 g2 g5 g6
  subst g0 g1 g2 g5 g6
  exact ⟨⟨dn, cn, sn, out, wh, u3.1, u4.1, u3.2.1, u4.2.1, u3.2.2, u4.2.2⟩, rfl, f3, f4, l3, l4⟩
theorem open_Changes {H : Type} {enc : TypeId × Value → H} {w : World} {base : Nat} {r : Reach} {b0 : Nat} {v : Value} {d : DataW H} {p : List MemPlace}
    (hv : Value.okWide Try.prog w r b0 26 v) (h : DataW.Trod enc Try.prog w base (fun _ => true) true 26 v d p) :
    ∃ u : Option Addr × Nat × List ChgA, v = .slice u.1 u.2.2.length u.2.1 ∧ (ChgsAt w u.1 u.2.2 ∧ u.2.2.length ≤ 9223372036854775807) := by
  obtain ⟨A, len, cap, rfl⟩ := okWide_slice Try.underlying26 hv
  obtain ⟨fuel, hf⟩ := h
  replace hf : DataW.trod enc Try.prog w base (fun _ => true) true fuel 26 [.slice A len cap] = some (d, p) := hf
  obtain ⟨u, e, h, hl⟩ := open_rowsR (β := ChgA) (k := 9) Try.underlying26 (by kernel_rfl)
    (fun a x => a.spot = none ∧ a.block < w.heap.size ∧ w.rangeAt a.block a.off x.cells ∧ ChgOk w x)
    (fun m a cs y hc h => by
      obtain ⟨_, hlen, hcell⟩ := World.cells?_some hc
      have hb := World.cells?_block hc (by decide)
      obtain ⟨xs, n, _, _, _, hln, hf⟩ := DataW.trod_struct Try.underlying66 h
      have kr : Try.prog.cellsOf 25 = 7 := by kernel_rfl
      have ki : Try.prog.cellsOf 3 = 1 := by kernel_rfl
      have ks : Try.prog.cellsOf 23 = 1 := by kernel_rfl
      have h0 := hf 0 _ rfl
      have h1 := hf 1 _ rfl
      have h2 := hf 2 _ rfl
      obtain ⟨y0, q0⟩ := get_lt hln (i := 0) (by decide)
      obtain ⟨y1, q1⟩ := get_lt hln (i := 1) (by decide)
      obtain ⟨y2, q2⟩ := get_lt hln (i := 2) (by decide)
      rw [q0] at h0
      rw [q1] at h1
      rw [q2] at h2
      match cs, hlen with
      | [v0, v1, v2, v3, v4, v5, v6, v7, v8], _ =>
        simp [kr, ki, ks] at h0 h1 h2
        have hs : a.spot = none := spot_none (a := a) (v := v0) (hcell 0 (by decide))
        obtain ⟨ur, e0, f0⟩ := trod_Raw h0
        obtain ⟨fd, g1, _, w1⟩ := DataW.trod_int Try.underlying3 h1
        obtain ⟨u2, rfl, f2, l2⟩ := trod_Ints h2
        simp at g1
        subst g1
        refine ⟨⟨ur, fd, u2.1, u2.2.1, u2.2.2⟩, hs, hb, fun j v hj => ?_, ⟨f0, i64_of_wf w1, f2, l2⟩⟩
        have hj9 : j < 9 := (List.getElem?_eq_some_iff.1 hj).1
        have := hcell j hj9
        rw [add_none hs] at this
        rw [this, ← hj]
        show _ = (ur.lst ++ _)[j]?
        rw [← e0]; rfl) hf
  refine ⟨u, e, fun k c hk => ?_, hl⟩
  obtain ⟨ad, ea, hs, hb, hr, hok⟩ := h k c hk
  have hlt := (List.getElem?_eq_some_iff.1 hk).1
  obtain ⟨ad0, ea0, hs0, -⟩ := h 0 _ (List.getElem?_eq_getElem (Nat.lt_of_le_of_lt (Nat.zero_le _) hlt))
  rw [ea] at ea0; injection ea0 with ea0; subst ea0
  replace hs0 : ad.spot = none := by
    have : ad.add (0 * 9) = ad := by simp [Addr.add]
    rw [this] at hs0; exact hs0
  refine ⟨ad, ea, hs0, ?_, ?_, hok⟩
  · rw [block_add] at hb; exact hb
  · rw [add_none hs0] at hr; exact hr
end Go.Proofs.Ytgabfdappeakiaa
