/- Several texts in one: Of Opl. -/
import Derived.Test.YtdiflpbioohddaaDoortE19toOn
import Derived.Test.YtdiflpbioohddaaDoortE1toI0
import Derived.ProofKit
import Derived.LaidMore
import Derived.OpenShut
import Derived.MakeChecks
import Derived.Test.YtdiflpbioohddaaDoortU5toS3
import Derived.Test.YtdiflpbioohddaaDoortJitoDl
set_option linter.unusedVariables false
set_option linter.unusedSimpArgs false
section
set_option maxRecDepth 100000
namespace Go.Proofs.YtdiflpbioohddaaDoor
open Go.Joins Go.ChangeShapes Go.WideShapes Go.RowKit Go.Deep
theorem gForms : Tryd.prog.globalNamed "dspcompiler/processor.forms" = some 0 := by kernel_rfl
theorem tForms : (Tryd.prog.globals[0]?).map (·.type) = some 164 := by kernel_rfl
theorem trod_form {H : Type} {enc : TypeId × Value → H} {w : World} {base fuel : Nat} {sp : Nat → Bool} {hd : Bool} {cs : List Value} {y : DataW H × List MemPlace}
  (hf : DataW.trod enc Tryd.prog w base sp hd fuel 163 cs = some y) :
  ∃ (s : ByteArray) (a b c : Int), cs = [.string s, .int .i64 a, .int .i64 b, .int .i64 c] ∧ y.1 = .agg [.lit (.string s.data.toList), .agg [.lit (.int .i64 a), .lit (.int .i64 b), .lit (.int .i64 c)]] := by
 obtain ⟨y0, y1, n, rfl, hl, h0, h1⟩ := trod_struct2 Tryd.underlying163 hf
 have kf : Tryd.prog.cellsOf 163 = 4 := by kernel_rfl
 have ks : Tryd.prog.cellsOf 9 = 1 := by kernel_rfl
 have ka : Tryd.prog.cellsOf 158 = 3 := by kernel_rfl
 have ki : Tryd.prog.cellsOf 3 = 1 := by kernel_rfl
 rw [kf] at hl
 match cs, hl with
 | [v0, v1, v2, v3], _ =>
  simp [ks, ka] at h0 h1
  obtain ⟨s, e0, f0, -⟩ := DataW.trod_string Tryd.underlying9 h0
  obtain ⟨xs, m, -, rfl, -, hlen, hel⟩ := DataW.trod_array Tryd.underlying158 h1
  have g0 := hel 0 (by decide)
  have g1 := hel 1 (by decide)
  have g2 := hel 2 (by decide)
  obtain ⟨y0, q0⟩ := get_lt hlen (i := 0) (by decide)
  obtain ⟨y1, q1⟩ := get_lt hlen (i := 1) (by decide)
  obtain ⟨y2, q2⟩ := get_lt hlen (i := 2) (by decide)
  rw [q0] at g0
  rw [q1] at g1
  rw [q2] at g2
  simp [ki] at g0 g1 g2
  obtain ⟨a, e1, f1, -⟩ := DataW.trod_int Tryd.underlying3 g0
  obtain ⟨b, e2, f2, -⟩ := DataW.trod_int Tryd.underlying3 g1
  obtain ⟨c, e3, f3, -⟩ := DataW.trod_int Tryd.underlying3 g2
  simp at e0 e1 e2 e3
  subst e0 e1 e2 e3 f0
  refine ⟨s, a, b, c, rfl, ?_⟩
  match xs, hlen, q0, q1, q2 with
  | [z0, z1, z2], _, q0, q1, q2 =>
   simp at q0 q1 q2
   subst q0 q1 q2 f1 f2 f3
   rfl
theorem forms_of_met {W : World} {d : DataW Unit} {r : List (String × DataW Unit)} (hd : d = .agg [.agg [.lit (.string [104, 97, 108, 116]), .agg [.lit (.int .i64 0), .lit (.int .i64 0), .lit (.int .i64 0)]], .agg [.lit (.string [99, 108, 101, 97, 114]), .agg [.lit (.int .i64 0), .lit (.int .i64 0), .lit (.int .i64 0)]], .agg [.lit (.string [109, 97, 99]), .agg [.lit (.int .i64 1), .lit (.int .i64 0), .lit (.int .i64 5)]], .agg [.lit (.string [109, 97, 99, 109]), .agg [.lit (.int .i64 2), .lit (.int .i64 0), .lit (.int .i64 5)]], .agg [.lit (.string [109, 97, 99, 99]), .agg [.lit (.int .i64 3), .lit (.int .i64 4), .lit (.int .i64 5)]], .agg [.lit (.string [114, 111, 117, 110, 100]), .agg [.lit (.int .i64 1), .lit (.int .i64 0), .lit (.int .i64 0)]], .agg [.lit (.string [108, 111, 97, 100]), .agg [.lit (.int .i64 1), .lit (.int .i64 2), .lit (.int .i64 0)]], .agg [.lit (.string [115, 116, 111, 114, 101]), .agg [.lit (.int .i64 1), .lit (.int .i64 2), .lit (.int .i64 0)]], .agg [.lit (.string [112, 117, 115, 104]), .agg [.lit (.int .i64 3), .lit (.int .i64 1), .lit (.int .i64 0)]], .agg [.lit (.string [105, 110]), .agg [.lit (.int .i64 1), .lit (.int .i64 0), .lit (.int .i64 0)]], .agg [.lit (.string [111, 117, 116]), .agg [.lit (.int .i64 1), .lit (.int .i64 0), .lit (.int .i64 0)]], .agg [.lit (.string [109, 111, 118, 101]), .agg [.lit (.int .i64 1), .lit (.int .i64 1), .lit (.int .i64 0)]]])
  (h : laidMet Tryd.prog (("dspcompiler/processor.forms", d) :: r) W) :
  FormsAt W ∧ ∀ k, k < 12 → ∃ s : ByteArray, W.cell? ⟨0, k * 4, none⟩ = some (.string s) ∧ s.data.toList = (opWord k).map UInt8.ofNat := by
 obtain ⟨ps, ⟨g0, t0, cs0, f0, p0, q0, hg0, ht0, hv0, hd0, -⟩, -, -⟩ := h
 obtain rfl := Option.some.inj (gForms.symm.trans hg0)
 obtain rfl := Option.some.inj (tForms.symm.trans ht0)
 have kf : Tryd.prog.cellsOf 163 = 4 := by kernel_rfl
 obtain ⟨xs, m, -, hx, -, hn, hel⟩ := DataW.trod_array Tryd.underlying164 hd0
 have hx1 : DataW.agg (xs.map (·.1)) = d := (congrArg Prod.fst hx).symm
 rw [hd] at hx1
 injection hx1 with hx1
 have key : ∀ k, k < 12 → ∃ (s : ByteArray), W.cell? ⟨0, k * 4, none⟩ = some (.string s) ∧ s.data.toList = (opWord k).map UInt8.ofNat ∧ W.cell? ⟨0, k * 4 + 1, none⟩ = some (.int .i64 (kA k)) ∧ W.cell? ⟨0, k * 4 + 2, none⟩ = some (.int .i64 (kB k)) ∧ W.cell? ⟨0, k * 4 + 3, none⟩ = some (.int .i64 (kC k)) := fun k hk => by
  have hk1 := hel k hk
  obtain ⟨y, hy⟩ := get_lt hn hk
  rw [hy] at hk1
  obtain ⟨s, a, b, c, ecs, ey⟩ := trod_form hk1
  rw [kf] at ecs
  have hc : ∀ j, j < 4 → W.cell? ⟨0, k * 4 + j, none⟩ = [Value.string s, .int .i64 a, .int .i64 b, .int .i64 c][j]? := fun j hj => by
   rw [World.var?_cell hg0 hv0 (k * 4 + j), ← ecs, List.getElem?_take, if_pos hj, List.getElem?_drop]
   simp
  have hyk : (xs.map (·.1))[k]? = some y.1 := by rw [List.getElem?_map, hy]; rfl
  rw [hx1, ey] at hyk
  have hw : ((opWord k).map UInt8.ofNat, kA k, kB k, kC k) = (s.data.toList, a, b, c) := by
   match k, hk with
   | 0, _ | 1, _ | 2, _ | 3, _ | 4, _ | 5, _ | 6, _ | 7, _ | 8, _ | 9, _ | 10, _ | 11, _ =>
    simp at hyk
    obtain ⟨h1, h2, h3, h4⟩ := hyk
    simp [opWord, kA, kB, kC, ← h1, ← h2, ← h3, ← h4]
  simp only [Prod.mk.injEq] at hw
  obtain ⟨w1, w2, w3, w4⟩ := hw
  refine ⟨s, by first | (simp; done) | simpa using hc 0 (by decide), w1.symm, ?_, ?_, ?_⟩
  ·rw [w2]; first | (simp; done) | simpa using hc 1 (by decide)
  ·rw [w3]; first | (simp; done) | simpa using hc 2 (by decide)
  ·rw [w4]; first | (simp; done) | simpa using hc 3 (by decide)
 refine ⟨⟨?_, fun k hk => (key k hk).choose_spec.2.2⟩, fun k hk => ⟨_, (key k hk).choose_spec.1, (key k hk).choose_spec.2.1⟩⟩
 obtain ⟨s, hs, -⟩ := key 0 (by decide)
 exact Nat.lt_of_not_le fun hle => by
  have : W.heap[0]? = none := Array.getElem?_eq_none hle
  simp [World.cell?, this] at hs
theorem forms_of_laid {W : World} {d : DataW Unit} (hd : d = .agg [.agg [.lit (.string [104, 97, 108, 116]), .agg [.lit (.int .i64 0), .lit (.int .i64 0), .lit (.int .i64 0)]], .agg [.lit (.string [99, 108, 101, 97, 114]), .agg [.lit (.int .i64 0), .lit (.int .i64 0), .lit (.int .i64 0)]], .agg [.lit (.string [109, 97, 99]), .agg [.lit (.int .i64 1), .lit (.int .i64 0), .lit (.int .i64 5)]], .agg [.lit (.string [109, 97, 99, 109]), .agg [.lit (.int .i64 2), .lit (.int .i64 0), .lit (.int .i64 5)]], .agg [.lit (.string [109, 97, 99, 99]), .agg [.lit (.int .i64 3), .lit (.int .i64 4), .lit (.int .i64 5)]], .agg [.lit (.string [114, 111, 117, 110, 100]), .agg [.lit (.int .i64 1), .lit (.int .i64 0), .lit (.int .i64 0)]], .agg [.lit (.string [108, 111, 97, 100]), .agg [.lit (.int .i64 1), .lit (.int .i64 2), .lit (.int .i64 0)]], .agg [.lit (.string [115, 116, 111, 114, 101]), .agg [.lit (.int .i64 1), .lit (.int .i64 2), .lit (.int .i64 0)]], .agg [.lit (.string [112, 117, 115, 104]), .agg [.lit (.int .i64 3), .lit (.int .i64 1), .lit (.int .i64 0)]], .agg [.lit (.string [105, 110]), .agg [.lit (.int .i64 1), .lit (.int .i64 0), .lit (.int .i64 0)]], .agg [.lit (.string [111, 117, 116]), .agg [.lit (.int .i64 1), .lit (.int .i64 0), .lit (.int .i64 0)]], .agg [.lit (.string [109, 111, 118, 101]), .agg [.lit (.int .i64 1), .lit (.int .i64 1), .lit (.int .i64 0)]]])
  (h : laidMetH Tryd.prog [("dspcompiler/processor.forms", d)] W) :
  FormsAt W ∧ ∀ k, k < 12 → ∃ s : ByteArray, W.cell? ⟨0, k * 4, none⟩ = some (.string s) ∧ s.data.toList = (opWord k).map UInt8.ofNat := by
 rw [MakeChecks.laidMetH_plain _ _ _ (by subst hd; rfl)] at h
 exact forms_of_met hd h
end Go.Proofs.YtdiflpbioohddaaDoor
end
section
set_option maxRecDepth 100000
namespace Go.Proofs.YtdiflpbioohddaaDoor
open Go.Joins Go.ChangeShapes Go.WideShapes Go.RowKit Go.Deep
theorem open_Plant {H : Type} {enc : TypeId × Value → H} {w : World} {base : Nat} {r : Reach} {b0 : Nat} {v : Value} {d : DataW H} {p : List MemPlace}
  (hv : Value.okWide Tryd.prog w r b0 55 v) (h : DataW.Trod enc Tryd.prog w base (fun _ => true) true 55 v d p) :
  ∃ u : PlantA, v = .agg u.lst.toArray ∧ PlantOk w u := by
 obtain ⟨cs, rfl, hsz⟩ := okWide_struct Tryd.underlying55 hv
 obtain ⟨v0, v1, v2, v3, v4, rfl⟩ := array5 (hsz.trans (by kernel_rfl))
 obtain ⟨fuel, hf⟩ := h
 obtain ⟨xs, n, _, _, _, hlen, hf⟩ := DataW.trod_struct Tryd.underlying55 hf
 have ki : Tryd.prog.cellsOf 3 = 1 := by kernel_rfl
 have ks : Tryd.prog.cellsOf 25 = 1 := by kernel_rfl
 have h0 := hf 0 _ rfl
 have h1 := hf 1 _ rfl
 have h2 := hf 2 _ rfl
 have h3 := hf 3 _ rfl
 have h4 := hf 4 _ rfl
 obtain ⟨y0, q0⟩ := get_lt hlen (i := 0) (by decide)
 obtain ⟨y1, q1⟩ := get_lt hlen (i := 1) (by decide)
 obtain ⟨y2, q2⟩ := get_lt hlen (i := 2) (by decide)
 obtain ⟨y3, q3⟩ := get_lt hlen (i := 3) (by decide)
 obtain ⟨y4, q4⟩ := get_lt hlen (i := 4) (by decide)
 rw [q0] at h0
 rw [q1] at h1
 rw [q2] at h2
 rw [q3] at h3
 rw [q4] at h4
 clear hf q0 q1 q2 q3 q4
 simp [ki, ks, Value.cells] at h0 h1 h2 h3 h4
 obtain ⟨kd, g0, _, w0⟩ := DataW.trod_int Tryd.underlying3 h0
 obtain ⟨dn, g1, _, w1⟩ := DataW.trod_int Tryd.underlying3 h1
 obtain ⟨cn, g2, _, w2⟩ := DataW.trod_int Tryd.underlying3 h2
 obtain ⟨u3, rfl, f3, l3⟩ := trod_Ints h3
 obtain ⟨u4, rfl, f4, l4⟩ := trod_Ints h4
 simp at g0 g1 g2
 subst g0 g1 g2
 exact ⟨⟨kd, dn, cn, u3.1, u4.1, u3.2.1, u4.2.1, u3.2.2, u4.2.2⟩, rfl, ⟨f3, f4⟩, l3, l4⟩
end Go.Proofs.YtdiflpbioohddaaDoor
end
