/- Several texts in one: E21 E26 E29 O2 On Od Oi E30 E32 S1. -/
import Derived.Test.YtpdpcgeeneajjaaDoorsE15toU5
import Derived.Test.YtpdpcgeeneajjaaDoorsRytoE19
import Derived.DeepKeys4
import Derived.WideKeyEntry
import Derived.Test.YtpdpcgeeneajjaaDoorsQtoU3
import Derived.Carry
import Derived.Test.YtpdpcgeeneajjaaDoorsE1toI0
import Derived.Test.YtpdpcgeeneajjaaDoorsJ2
import Derived.OrdersHeld
import Derived.Deep.Slices
import Derived.Lib.SmallJoins
import Derived.Test.YtpdpcgeeneajjaaDoorsE24
import Derived.Test.YtpdpcgeeneajjaaDoorsE3toL1
import Derived.Deep.CutBlock
import Derived.Deep.DeepCutAuto
import Derived.OwnWalk
import Derived.Test.YtpdpcgeeneajjaaDoorsRutoE13
set_option linter.unusedVariables false
set_option linter.unusedSimpArgs false
section
namespace Go.Proofs.YtpdpcgeeneajjaaDoor
open Go.RowKit
def litI (w : World) (l : List Ins) : World := w.alloc (.cells ((l.flatMap encI).map (Value.int .i64)).toArray 50)
theorem InsAt.lit {w : World} {l : List Ins} (hl : ∀ i ∈ l, i.ok) : InsAt (litI w l) (some ⟨w.heap.size, 0, none⟩) l := fun k i hk => by
  refine ⟨_, rfl, rfl, by unfold litI; simp, fun j v hj => ?_, hl i (List.mem_of_getElem? hk)⟩
  have hj4 : j < 4 := (List.getElem?_eq_some_iff.1 hj).1
  have hb := Box.new (w := w) (vs := ((l.flatMap encI).map (Value.int .i64)).toArray) (t := 50) (g := w.heap.size) rfl
  have h2 := hb.2.1 (k * 4 + j)
  rw [show (⟨w.heap.size, 0, none⟩ : Addr).off + k * 4 + j = k * 4 + j by show 0 + k * 4 + j = _; omega]
  exact h2.trans ((flatI_get hk hj4).trans hj)
theorem litI_below (w : World) (l : List Ins) : Below w.heap.size w (litI w l) := (Below.refl _ _).alloc (Nat.le_refl _) _
set_option maxRecDepth 100000 in
set_option maxHeartbeats 4000000 in
theorem r38_SameCode (A B : Option Addr) (n c d : Nat) (l : List Ins) (w : World) (hA : InsAt w A l) (hB : InsAt w B l) (hn : l.length = n) (h9 : n ≤ 9223372036854775807) : Calls Tryd.prog 11 #[.slice A n c, .slice B n d] w fun e w' => e = .returned (.bool true) ∧ Below w.heap.size w w' := by
  have HA := Lib.hid hA
  have HB := Lib.hid hB
  have HN := Lib.hid hn
  clear hA hB hn
  go_enter Tryd.func11, Tryd.ntmps11
  go_wp2_with fail
  go_loopw [5] (fun x wr => ∃ k : Nat, k ≤ n ∧ x = .int .i64 k ∧ Hid (Below w.heap.size w wr)) (fun x _ => n - (intOf x).toNat)
  case atStart => exact ⟨0, Nat.zero_le _, rfl, Lib.hid (Below.refl _ _)⟩
  case round =>
    obtain ⟨k, hk, rfl, HW⟩ := hrel
    by_cases hlt : k < n
    · obtain ⟨i, hi⟩ : ∃ i, l[k]? = some i := ⟨_, List.getElem?_eq_getElem (by rw [HN.out]; exact hlt)⟩
      obtain ⟨ad, ea, s1, b1, r1, -⟩ := (HA.out.grow HW.out) k i hi
      obtain ⟨bd, eb, s2, b2, r2, -⟩ := (HB.out.grow HW.out) k i hi
      subst ea eb
      have D1 : Hid (ad.spot = none ∧ ad.block < wr.heap.size ∧ wr.rangeAt ad.block (ad.off + k * 4) i.cells) := ⟨s1, b1, r1⟩
      have D2 : Hid (bd.spot = none ∧ bd.block < wr.heap.size ∧ wr.rangeAt bd.block (bd.off + k * 4) i.cells) := ⟨s2, b2, r2⟩
      have x1 : (0 : Int) ≤ (k : Int) := by omega
      have x2 : (k : Int) < (n : Int) := by omega
      have wk : IntKind.i64.wrap ((k : Int) + 1) = ((k + 1 : Nat) : Int) := (IntWalk.i64_in _ (by omega)).trans (by omega)
      clear s1 s2 b1 b2 r1 r2 hi
      go_upto_region 6 with fail
      refine wp_region_ext (by kernel_rfl) (by kernel_rfl) ?_
      repeat (first
        | ((with_reducible show wpQuiet _ _ _ _ (Oper.mk (some 20) (.load 50 _) _ _ _ _ :: _) _); refine qld_insA D1.out.1 D1.out.2.1 D1.out.2.2 rfl _ rfl rfl ?_; simp [Act.put])
        | ((with_reducible show wpQuiet _ _ _ _ (Oper.mk (some 24) (.load 50 _) _ _ _ _ :: _) _); refine qld_insA D2.out.1 D2.out.2.1 D2.out.2.2 rfl _ rfl rfl ?_; simp [Act.put])
        | (go_big_quiet_step (fail)))
      refine wpQuiet_nil ?_
      rintro ⟨w3, hb3⟩
      dsimp only
      have HB3 := Lib.hid (below_then HW.out hb3)
      clear hb3
      go_wp2_with fail
      go_roundw
      case rel => exact ⟨k + 1, by omega, rfl, HB3⟩
      case measure => simp [intOf]; omega
    · obtain rfl : k = n := by omega
      have hlo : ¬ (k : Int) < (k : Int) := by omega
      go_wp2_with fail
      go_ret
      exact ⟨rfl, HW.out⟩
end Go.Proofs.YtpdpcgeeneajjaaDoor
end
section
namespace Go.Proofs.YtpdpcgeeneajjaaDoor
open Go.RowKit
end Go.Proofs.YtpdpcgeeneajjaaDoor
end
section
namespace Go.Proofs.YtpdpcgeeneajjaaDoor
open Go.RowKit
theorem flatI_set : ∀ (l : List Ins) (k : Nat) (i : Ins), (l.set k i).flatMap encI = ((((l.flatMap encI).set (k * 4) i.op).set (k * 4 + 1) i.a).set (k * 4 + 2) i.b).set (k * 4 + 3) i.imm
  | [], k, i => by simp
  | a :: l, 0, i => by simp [encI]
  | a :: l, k + 1, i => by
    rw [List.set_cons_succ, List.flatMap_cons, flatI_set l k i, List.flatMap_cons]
    show _ = (((([a.op, a.a, a.b, a.imm] ++ l.flatMap encI).set ((k + 1) * 4) i.op).set ((k + 1) * 4 + 1) i.a).set ((k + 1) * 4 + 2) i.b).set ((k + 1) * 4 + 3) i.imm
    rw [show (k + 1) * 4 = k * 4 + 1 + 1 + 1 + 1 by omega]
    simp [encI]
theorem OwnIR.block {base : Nat} {w : World} {g n c : Nat} {l : List Ins} (h : OwnIR base w (.slice (some ⟨g, 0, none⟩) n c) l) : base ≤ g ∧ g < w.heap.size := h.1.lt g rfl
theorem OwnIR.len {base : Nat} {w : World} {A : Option Addr} {n c : Nat} {l : List Ins} (h : OwnIR base w (.slice A n c) l) : n = l.length := by
  obtain ⟨A', c', e, -⟩ := own_form h.1
  injection e
theorem OwnIR.put {base : Nat} {w : World} {g n c : Nat} {l : List Ins} (h : OwnIR base w (.slice (some ⟨g, 0, none⟩) n c) l) (k : Nat) {i : Ins} (hi : i.ok) :
    OwnIR base (w.setCells g (k * 4) i.cells) (.slice (some ⟨g, 0, none⟩) n c) (l.set k i) := by
  have e2 := h.len
  subst e2
  have a0 := (h.1.stored (k * 4) (.int .i64 i.op)).1
  have a1 := (a0.stored (k * 4 + 1) (.int .i64 i.a)).1
  have a2 := (a1.stored (k * 4 + 2) (.int .i64 i.b)).1
  have a3 := (a2.stored (k * 4 + 3) (.int .i64 i.imm)).1
  refine ⟨by rw [List.length_set, flatI_set, List.map_set, List.map_set, List.map_set, List.map_set]; exact a3, fun q hq => ?_⟩
  rcases List.mem_or_eq_of_mem_set hq with hq | hq
  · exact h.2 q hq
  · subst hq; exact hi
theorem OwnIR.there {base : Nat} {w : World} {g n c : Nat} {l : List Ins} (h : OwnIR base w (.slice (some ⟨g, 0, none⟩) n c) l) {k : Nat} (hk : k < l.length) : w.there g (k * 4) 4 := by
  have e2 := h.len
  subst e2
  intro j hj
  refine ⟨?_, h.1.frozenAt _⟩
  rw [h.1.cellAt (k * 4 + j) (by omega), flatI_get (List.getElem?_eq_getElem hk) hj]
  show ((l[k].cells)[j]?).isSome = true
  match j, hj with
  | 0, _ | 1, _ | 2, _ | 3, _ => rfl
end Go.Proofs.YtpdpcgeeneajjaaDoor
end
section
set_option maxRecDepth 100000
namespace Go.Proofs.YtpdpcgeeneajjaaDoor
open Go.Joins Go.ChangeShapes Go.WideShapes Go.RowKit Go.Deep
theorem get_lt {α : Type} {l : List α} {n i : Nat} (h : l.length = n) (hi : i < n) : ∃ x, l[i]? = some x := ⟨_, List.getElem?_eq_getElem (h ▸ hi)⟩
end Go.Proofs.YtpdpcgeeneajjaaDoor
end
section
set_option maxRecDepth 100000
namespace Go.Proofs.YtpdpcgeeneajjaaDoor
open Go.Joins Go.ChangeShapes Go.WideShapes Go.RowKit
theorem trod_Ints {H : Type} {enc : TypeId × Value → H} {w : World} {base fuel : Nat} {spare : Nat → Bool} {held : Bool} {v : Value} {y : DataW H × List MemPlace}
    (hf : DataW.trod enc Tryd.prog w base spare held fuel 32 [v] = some y) :
    ∃ u : Option Addr × Nat × List Int, v = .slice u.1 u.2.2.length u.2.1 ∧ (Ints w u.1 u.2.2 ∧ u.2.2.length ≤ 9223372036854775807) := by
  rcases open_ints Tryd.underlying32 Tryd.underlying3 (by kernel_rfl) hf with ⟨hcs, _⟩ | ⟨x, l, c, zs, hcs, _, hl, hm, hz, _, hcell, hwz⟩
  · simp at hcs
    subst hcs
    exact ⟨⟨none, 0, []⟩, rfl, Ints.nil, by simp⟩
  · simp at hcs
    subst hcs
    have hlz : l ≤ zs.length := by rw [hz]; split <;> omega
    have hlen : (zs.take l).length = l := by simp; omega
    refine ⟨⟨some x, c, zs.take l⟩, by rw [hlen], ⟨fun k v hk => ?_, fun y hy => i64_of_wf (hwz y (List.mem_of_mem_take hy))⟩, by rw [hlen]; unfold maxLen at hm; omega⟩
    rw [List.getElem?_map] at hk
    cases hx : (zs.take l)[k]? with
    | none => rw [hx] at hk; cases hk
    | some q =>
      rw [hx] at hk
      simp only [Option.map_some, Option.some.injEq] at hk
      subst hk
      have hkl : k < l := by
        have := (List.getElem?_eq_some_iff.1 hx).1
        omega
      rw [List.getElem?_take_of_lt hkl] at hx
      have hc := hcell k (by omega)
      rw [List.getD_eq_getElem?_getD, hx] at hc
      have hb := cell_lt hc
      rw [block_add] at hb
      exact ⟨x, rfl, hb, hc⟩
end Go.Proofs.YtpdpcgeeneajjaaDoor
end
section
set_option maxRecDepth 100000
namespace Go.Proofs.YtpdpcgeeneajjaaDoor
open Go.Joins Go.ChangeShapes Go.WideShapes Go.RowKit Go.Deep
structure DraftA where
  (dn cn : Int)
  (RA OA FA : Option Addr)
  (rc oc fc : Nat)
  (rs os fs : List Int)
def DraftOk (w : World) (u : DraftA) : Prop := (Ints w u.RA u.rs ∧ Ints w u.OA u.os ∧ Ints w u.FA u.fs) ∧ u.rs.length ≤ 9223372036854775807 ∧ u.os.length ≤ 9223372036854775807 ∧ u.fs.length ≤ 9223372036854775807
theorem DraftOk.grow {w w' : World} {u : DraftA} (h : DraftOk w u) (hb : Below w.heap.size w w') : DraftOk w' u := ⟨⟨h.1.1.grow hb, h.1.2.1.grow hb, h.1.2.2.grow hb⟩, h.2⟩
theorem array5 {α : Type} {cs : Array α} (h : cs.size = 5) : ∃ c0 c1 c2 c3 c4, cs = #[c0, c1, c2, c3, c4] := by
  obtain ⟨l⟩ := cs
  match l, h with
  | [c0, c1, c2, c3, c4], _ => exact ⟨c0, c1, c2, c3, c4, rfl⟩
abbrev DraftA.v (u : DraftA) : Value := dftV u.dn u.cn u.RA u.OA u.FA u.rs.length u.rc u.os.length u.oc u.fs.length u.fc
def DraftA.d (u : DraftA) (most : Nat) : PrgD := prgF u.dn u.cn u.rs u.os u.fs most
theorem open_Draft {H : Type} {enc : TypeId × Value → H} {w : World} {base : Nat} {r : Reach} {b0 : Nat} {v : Value} {d : DataW H} {p : List MemPlace}
    (hv : Value.okWide Tryd.prog w r b0 34 v) (h : DataW.Trod enc Tryd.prog w base (fun _ => true) true 34 v d p) :
    ∃ u : DraftA, v = u.v ∧ DraftOk w u := by
  obtain ⟨cs, rfl, hsz⟩ := okWide_struct Tryd.underlying34 hv
  obtain ⟨v0, v1, v2, v3, v4, rfl⟩ := array5 (hsz.trans (by kernel_rfl))
  obtain ⟨fuel, hf⟩ := h
  obtain ⟨xs, n, _, _, _, hlen, hf⟩ := DataW.trod_struct Tryd.underlying34 hf
  have ki : Tryd.prog.cellsOf 3 = 1 := by kernel_rfl
  have ks : Tryd.prog.cellsOf 32 = 1 := by kernel_rfl
  have h0 := hf 0 _ rfl
  have h1 := hf 1 _ rfl
  have h2 := hf 2 _ rfl
  have h3 := hf 3 _ rfl
  have h4 := hf 4 _ rfl
  obtain ⟨y0, q0⟩ := get_lt hlen (i := 0) (by decide)
  obtain ⟨y1, q1⟩ := get_lt hlen (i := 1) (by decide)
  obtain ⟨y2, q2⟩ := get_lt hlen (i := 2) (by decide)
  obtain ⟨y3, q3⟩ := get_lt hlen (i := 3) (by decide)
  obtain ⟨y4, q4⟩ := get_lt hlen (i := 4) (by decide)
  rw [q0] at h0
  rw [q1] at h1
  rw [q2] at h2
  rw [q3] at h3
  rw [q4] at h4
  clear hf q0 q1 q2 q3 q4
  simp [ki, ks, Value.cells] at h0 h1 h2 h3 h4
  obtain ⟨dn, g0, _, w0⟩ := DataW.trod_int Tryd.underlying3 h0
  obtain ⟨cn, g1, _, w1⟩ := DataW.trod_int Tryd.underlying3 h1
  obtain ⟨u2, rfl, f2, l2⟩ := trod_Ints h2
  obtain ⟨u3, rfl, f3, l3⟩ := trod_Ints h3
  obtain ⟨u4, rfl, f4, l4⟩ := trod_Ints h4
  simp at g0 g1
  subst g0 g1
  exact ⟨⟨dn, cn, u2.1, u3.1, u4.1, u2.2.1, u3.2.1, u4.2.1, u2.2.2, u3.2.2, u4.2.2⟩, rfl, ⟨f2, f3, f4⟩, l2, l3, l4⟩
theorem dr_CodeC (u : DraftA) (most : Nat) (w : World) (h : DraftOk w u) (hm : most ≤ 1000) :
    Calls Tryd.prog 12 #[u.v, .int .i64 most] w (RetPrgC w (u.d most)) :=
  dr_ProgramC u.dn u.cn u.RA u.OA u.FA u.rs.length u.rc u.os.length u.oc u.fs.length u.fc most u.rs u.os u.fs w h.1.1 h.1.2.1 h.1.2.2 rfl rfl rfl h.2.1 h.2.2.1 h.2.2.2 hm
end Go.Proofs.YtpdpcgeeneajjaaDoor
end
section
set_option maxRecDepth 100000
namespace Go.Proofs.YtpdpcgeeneajjaaDoor
open Go.Joins Go.ChangeShapes Go.WideShapes Go.RowKit Go.Deep
instance : Inhabited Ins := ⟨Ins.zero⟩
end Go.Proofs.YtpdpcgeeneajjaaDoor
end
section
namespace Go.Proofs.YtpdpcgeeneajjaaDoor
open Go.RowKit
theorem prgF_code_pos (dn cn : Int) (rs os fs : List Int) (most : Nat) : 1 ≤ (prgF dn cn rs os fs most).code.length ∧ (prgF dn cn rs os fs most).code.length ≤ most + 1 := by
  unfold prgF
  simp [codeK_length]
  omega
theorem size_dft : (Tryd.prog.info? 34).map (·.size) = some 5 := by kernel_rfl
theorem row_dft : ∃ d, Tryd.prog.underlying 34 = some d ∧ d.isRow = true := ⟨_, Tryd.underlying34, rfl⟩
def DraftA.lst (u : DraftA) : List Value := [.int .i64 u.dn, .int .i64 u.cn, .slice u.RA u.rs.length u.rc, .slice u.OA u.os.length u.oc, .slice u.FA u.fs.length u.fc]
theorem ld_dft {ops : Array Oper} {rest : List Oper} {o : Oper} {a : Act} {Q : Exit → Act → World → Prop} {w : World} {u : DraftA} {g : Nat} (hb : Box w g u.lst) (hgd : o.guard = none) (x : Operand) (ho : o.op = .load 34 x) (hx : a.eval x = .pointer (some ⟨g, 0, none⟩)) (h : wpList Tryd.prog ops Q rest (a.put o.dst u.v) w) : wpList Tryd.prog ops Q (o :: rest) a w := by
  obtain ⟨d, h1, h2⟩ := row_dft
  exact wp_ld hgd _ x ho g 0 hx hb u.lst (fun j v hj => by rw [Nat.zero_add]; exact hj) d h1 h2 size_dft h
theorem OwnIR.some {base : Nat} {w : World} {v : Value} {l : List Ins} (h : OwnIR base w v l) (hl : 1 ≤ l.length) : ∃ g c, v = .slice (some ⟨g, 0, none⟩) l.length c := by
  obtain ⟨A, c, rfl, -⟩ := own_form h.1
  obtain ⟨i, hi⟩ : ∃ i, l[0]? = Option.some i := ⟨_, List.getElem?_eq_getElem (by omega)⟩
  obtain ⟨g, e0, -, -⟩ := own_cells h.1 (k := 0 * 4 + 0) (v := .int .i64 i.op) (by rw [flatI_get hi (by omega)]; rfl)
  subst e0
  exact ⟨g, c, rfl⟩
end Go.Proofs.YtpdpcgeeneajjaaDoor
end
section
namespace Go.Proofs.YtpdpcgeeneajjaaDoor
open Go.RowKit
theorem insF_formed {rg : List (Int × Int)} {op a b y : Int} (ho : 1 ≤ op ∧ op ≤ 11) (hy : -8388608 ≤ y ∧ y ≤ 8388608) (hg : rg.length ≤ 3) (h6 : ∀ x ∈ rg, 1 ≤ x.2 ∧ x.2 ≤ 6) : (insF rg op a b y).formed = true := by
  have hc : op = 1 ∨ op = 2 ∨ op = 3 ∨ op = 4 ∨ op = 5 ∨ op = 6 ∨ op = 7 ∨ op = 8 ∨ op = 9 ∨ op = 10 ∨ op = 11 := by omega
  rcases hc with rfl | rfl | rfl | rfl | rfl | rfl | rfl | rfl | rfl | rfl | rfl
  · rw [insF_1]; rfl
  · rw [insF_2]; simp [Ins.formed, kA, kB, kC, fitsK]; omega
  · rw [insF_3]; simp [Ins.formed, kA, kB, kC, fitsK]; omega
  · by_cases h0 : rg.length = 0
    · rw [insF_40 _ _ _ h0]; rfl
    · have e0 := Int.emod_nonneg a (show (rg.length : Int) ≠ 0 by omega)
      have e1 := Int.emod_lt_of_pos a (show (0 : Int) < rg.length by omega)
      obtain ⟨m, hm⟩ := Int.eq_ofNat_of_zero_le e0
      obtain ⟨x, hx⟩ : ∃ x, rg[m]? = some x := ⟨_, List.getElem?_eq_getElem (by omega)⟩
      rw [insF_4 rfl (by omega) hm hx]
      have := h6 x (List.mem_of_getElem? hx)
      have := Int.emod_nonneg (a / 10) (show x.2 ≠ 0 by omega)
      have := Int.emod_lt_of_pos (a / 10) (show 0 < x.2 by omega)
      simp [Ins.formed, kA, kB, kC, fitsK]; omega
  · rw [insF_5]; simp [Ins.formed, kA, kB, kC, fitsK]; omega
  · rw [insF_6]; simp [Ins.formed, kA, kB, kC, fitsK]; omega
  · rw [insF_7]; simp [Ins.formed, kA, kB, kC, fitsK]; omega
  · by_cases h0 : rg.length = 0
    · rw [insF_80 _ _ _ h0]; rfl
    · have e0 := Int.emod_nonneg a (show (rg.length : Int) ≠ 0 by omega)
      have e1 := Int.emod_lt_of_pos a (show (0 : Int) < rg.length by omega)
      obtain ⟨m, hm⟩ := Int.eq_ofNat_of_zero_le e0
      rw [insF_8 rfl (by omega) hm]
      simp [Ins.formed, kA, kB, kC, fitsK]; omega
  · rw [insF_9]; simp [Ins.formed, kA, kB, kC, fitsK]; omega
  · rw [insF_10]; simp [Ins.formed, kA, kB, kC, fitsK]; omega
  · rw [insF_11]; simp [Ins.formed, kA, kB, kC, fitsK]; omega
theorem ringsF_six (rs : List Int) (n : Nat) : ∀ x ∈ ringsF rs n, 1 ≤ x.2 ∧ x.2 ≤ 6 := fun x hx => by
  unfold ringsF at hx
  obtain ⟨k, -, rfl⟩ := List.mem_map.1 hx
  have := within_in (m := 6) (by omega) (rs.getD k 0)
  show 1 ≤ 1 + _ ∧ 1 + _ ≤ 6
  omega
theorem wordF_23 (b f r o x : Int) : -8388608 ≤ wordF b f r o x ∧ wordF b f r o x ≤ 8388608 := by
  obtain ⟨q1, q2, q3, q4⟩ := low_high b f r o
  obtain ⟨g1, g2⟩ := within_in (m := highW b f r o - lowW b f r o + 1) (by omega) (wrap64 (x - lowW b f r o))
  unfold wordF
  omega
theorem prgF_formed (dn cn : Int) (rs os fs : List Int) (most : Nat) : ∀ i ∈ (prgF dn cn rs os fs most).code, i.formed = true := fun i hi => by
  unfold prgF at hi
  simp only at hi
  rcases List.mem_append.1 hi with h | h
  · unfold codeK at h
    obtain ⟨k, -, rfl⟩ := List.mem_map.1 h
    unfold insK
    have := within_in (m := 11) (by omega) (os.getD k 0)
    exact insF_formed (by omega) (wordF_23 _ _ _ _ _) (by rw [ringsF_length]; omega) (ringsF_six _ _)
  · rw [List.mem_singleton.1 h]; rfl
theorem bld_ins2 {ops : Array Oper} {rest : List Oper} {o : Oper} {a : Act} {Q : Exit → Act → World → Prop} {w : World} (i0 i1 : Ins) (hgd : o.guard = none) (x0 x1 : Operand) (ho : o.op = .buildSlice 24 2 #[(0, x0), (1, x1)]) (h0 : a.eval x0 = i0.v) (h1 : a.eval x1 = i1.v)
    (h : wpList Tryd.prog ops Q rest (a.put o.dst (.slice (some ⟨w.heap.size, 0, none⟩) 2 2)) (litI w [i0, i1])) : wpList Tryd.prog ops Q (o :: rest) a w :=
  wp_bldS hgd 24 50 2 _ ho und_ins 4 size_ins (by decide) (by decide) _ rfl (by show builtS Tryd.prog 50 2 [(0, a.eval x0), (1, a.eval x1)] = _; rw [h0, h1]; kernel_rfl) h
end Go.Proofs.YtpdpcgeeneajjaaDoor
end
section
namespace Go.Proofs.YtpdpcgeeneajjaaDoor
open Go.RowKit
def ringIn (x : Int × Int) : Bool := decide (1 ≤ x.2 ∧ x.2 ≤ 128 ∧ 0 ≤ x.1 ∧ x.1 ≤ 128 - x.2)
def inR (m : Int) (x : Int × Int) : Bool := decide (x.1 ≤ m ∧ m < x.1 + x.2)
def usdB (rg : List (Int × Int)) (m : Int) : Bool := rg.any (inR m)
def clash (x y : Int × Int) : Bool := decide (x.1 < y.1 + y.2 ∧ y.1 < x.1 + x.2)
def ringsK (rg : List (Int × Int)) : Nat → Bool
  | 0 => true
  | k + 1 => ringsK rg k && (ringIn (rg.getD k (0, 0)) && !(rg.take k).any (clash (rg.getD k (0, 0))))
def ringsB (rg : List (Int × Int)) : Bool := decide (rg.length ≤ 8) && ringsK rg rg.length
def fitI (d : PrgD) (i : Ins) : Bool :=
  (if i.op = 4 then decide (i.a < d.rg.length) && decide (i.b < (d.rg.getD i.a.toNat (0, 0)).2) else if i.op = 8 then decide (i.a < d.rg.length)
   else if i.op = 3 then !usdB d.rg i.a else if i.op = 6 ∨ i.op = 7 then !usdB d.rg i.b else true)
  && (if i.op = 2 ∨ i.op = 3 ∨ i.op = 4 then fitsW d.c0 d.c1 d.c2 d.c3 i.imm || decide (i.imm = 2 ^ d.c1.toNat) else true)
def suitB (d : PrgD) (i : Ins) : Bool := i.formed && fitI d i
def okWD (d : PrgD) : Bool := okW d.d0 d.d1 d.d2 d.d3 && okW d.c0 d.c1 d.c2 d.c3
def goodAt (d : PrgD) (k : Nat) : Bool := suitB d (d.code.getD k Ins.zero) && (decide ((d.code.getD k Ins.zero).op = 0) == decide (k + 1 = d.code.length))
def chkF (d : PrgD) : Int × Int :=
  if okWD d = false then (-1, 2) else if ringsB d.rg = false then (-1, 23) else if inB d.code.length 1 512 = false then (-1, 5)
  else match (List.range d.code.length).find? (fun k => !goodAt d k) with
    | some k => ((k : Int), 21)
    | none => (-1, 0)
def validB (d : PrgD) : Bool := okWD d && (ringsB d.rg && (inB d.code.length 1 512 && (List.range d.code.length).all (goodAt d)))
theorem find_range {p : Nat → Bool} {n k : Nat} (hk : k < n) (h : ∀ j, j < k → p j = false) (hp : p k = true) : (List.range n).find? p = some k := by
  rw [List.find?_range_eq_some]
  exact ⟨hp, List.mem_range.2 hk, fun j hj => by rw [h j hj]; rfl⟩
theorem find_none {p : Nat → Bool} {n : Nat} (h : ∀ j, j < n → p j = false) : (List.range n).find? p = none := by
  rw [List.find?_eq_none]
  intro j hj
  rw [h j (List.mem_range.1 hj)]; simp
theorem chk_words {d : PrgD} (h : okWD d = false) : chkF d = (-1, 2) := by unfold chkF; rw [if_pos h]
theorem chk_rings {d : PrgD} (h : okWD d = true) (h1 : ringsB d.rg = false) : chkF d = (-1, 23) := by unfold chkF; rw [if_neg (by rw [h]; decide), if_pos h1]
theorem chk_many {d : PrgD} (h : okWD d = true) (h1 : ringsB d.rg = true) (h2 : inB d.code.length 1 512 = false) : chkF d = (-1, 5) := by
  unfold chkF; rw [if_neg (by rw [h]; decide), if_neg (by rw [h1]; decide), if_pos h2]
theorem chk_at {d : PrgD} (h : okWD d = true) (h1 : ringsB d.rg = true) (h2 : inB d.code.length 1 512 = true) {k : Nat} (hk : k < d.code.length) (hg : ∀ j, j < k → goodAt d j = true) (hb : goodAt d k = false) : chkF d = ((k : Int), 21) := by
  unfold chkF
  rw [if_neg (by rw [h]; decide), if_neg (by rw [h1]; decide), if_neg (by rw [h2]; decide), find_range (p := fun k => !goodAt d k) hk (fun j hj => by rw [hg j hj]; rfl) (by rw [hb]; rfl)]
theorem chk_ok {d : PrgD} (h : okWD d = true) (h1 : ringsB d.rg = true) (h2 : inB d.code.length 1 512 = true) (hg : ∀ j, j < d.code.length → goodAt d j = true) : chkF d = (-1, 0) := by
  unfold chkF
  rw [if_neg (by rw [h]; decide), if_neg (by rw [h1]; decide), if_neg (by rw [h2]; decide), find_none (p := fun k => !goodAt d k) (fun j hj => by rw [hg j hj]; rfl)]
theorem chk_valid (d : PrgD) : decide ((chkF d).2 = 0) = validB d := by
  unfold validB
  rcases Bool.eq_false_or_eq_true (okWD d) with h | h
  · rcases Bool.eq_false_or_eq_true (ringsB d.rg) with h1 | h1
    · rcases Bool.eq_false_or_eq_true (inB d.code.length 1 512) with h2 | h2
      · rw [h, h1, h2]
        by_cases hg : ∀ j, j < d.code.length → goodAt d j = true
        · rw [chk_ok h h1 h2 hg]
          simp only [Bool.true_and]
          exact (List.all_eq_true.2 fun j hj => hg j (List.mem_range.1 hj)).symm
        · unfold chkF
          rw [if_neg (by rw [h]; decide), if_neg (by rw [h1]; decide), if_neg (by rw [h2]; decide)]
          cases e : (List.range d.code.length).find? (fun k => !goodAt d k) with
          | none =>
            rw [List.find?_eq_none] at e
            exact absurd (fun j hj => by have := e j (List.mem_range.2 hj); simpa using this) hg
          | some k =>
            have h3 := List.find?_some e
            have h4 := List.mem_of_find?_eq_some e
            simp only [Bool.true_and]
            symm
            show _ = false
            rw [List.all_eq_false]
            exact ⟨k, h4, by simpa using h3⟩
      · rw [chk_many h h1 h2, h2]; simp
    · rw [chk_rings h h1, h1]; simp
  · rw [chk_words h, h]; simp
theorem valid_parts {d : PrgD} (h : validB d = true) : okWD d = true ∧ ringsB d.rg = true ∧ (1 ≤ d.code.length ∧ d.code.length ≤ 512) ∧ ∀ j, j < d.code.length → goodAt d j = true := by
  unfold validB at h
  simp only [Bool.and_eq_true] at h
  obtain ⟨h1, h2, h3, h4⟩ := h
  rw [inB_iff] at h3
  exact ⟨h1, h2, by omega, fun j hj => List.all_eq_true.1 h4 j (List.mem_range.2 hj)⟩
theorem inR_iff {m : Int} {x : Int × Int} : inR m x = true ↔ x.1 ≤ m ∧ m < x.1 + x.2 := by unfold inR; rw [decide_eq_true_eq]
theorem ringIn_iff {x : Int × Int} : ringIn x = true ↔ 1 ≤ x.2 ∧ x.2 ≤ 128 ∧ 0 ≤ x.1 ∧ x.1 ≤ 128 - x.2 := by unfold ringIn; rw [decide_eq_true_eq]
theorem clash_iff {x y : Int × Int} : clash x y = true ↔ x.1 < y.1 + y.2 ∧ y.1 < x.1 + x.2 := by unfold clash; rw [decide_eq_true_eq]
theorem clash_used {x : Int × Int} {l : List (Int × Int)} (hx : 1 ≤ x.2) (hl : ∀ y ∈ l, 1 ≤ y.2) : l.any (clash x) = true ↔ ∃ k : Nat, (k : Int) < x.2 ∧ usdB l (x.1 + k) = true := by
  unfold usdB
  constructor
  · intro h
    obtain ⟨y, hy, hc⟩ := List.any_eq_true.1 h
    rw [clash_iff] at hc
    have := hl y hy
    refine ⟨(max y.1 x.1 - x.1).toNat, by omega, List.any_eq_true.2 ⟨y, hy, inR_iff.2 (by omega)⟩⟩
  · rintro ⟨k, hk, h⟩
    obtain ⟨y, hy, hc⟩ := List.any_eq_true.1 h
    rw [inR_iff] at hc
    exact List.any_eq_true.2 ⟨y, hy, clash_iff.2 (by omega)⟩
theorem ringsK_all {rg : List (Int × Int)} : ∀ {k : Nat}, ringsK rg k = true → k ≤ rg.length → ∀ y ∈ rg.take k, ringIn y = true
  | 0, _, _ => by simp
  | k + 1, h, hk => fun y hy => by
    unfold ringsK at h
    simp only [Bool.and_eq_true] at h
    have e : rg.take (k + 1) = rg.take k ++ [rg.getD k (0, 0)] := by
      rw [List.take_succ_eq_append_getElem (show k < rg.length by omega), List.getD_eq_getElem?_getD, List.getElem?_eq_getElem (show k < rg.length by omega)]; rfl
    rw [e] at hy
    rcases List.mem_append.1 hy with h2 | h2
    · exact ringsK_all h.1 (by omega) y h2
    · rw [List.mem_singleton.1 h2]; exact h.2.1
theorem ringsK_le {rg : List (Int × Int)} : ∀ {k j : Nat}, j ≤ k → ringsK rg k = true → ringsK rg j = true
  | 0, j, hj, h => by obtain rfl : j = 0 := by omega
                      exact h
  | k + 1, j, hj, h => by
    by_cases e : j = k + 1
    · rw [e]; exact h
    · unfold ringsK at h
      rw [Bool.and_eq_true] at h
      exact ringsK_le (by omega) h.1
theorem ringsB_no {rg : List (Int × Int)} {k : Nat} (hk : k ≤ rg.length) (h : ringsK rg k = false) : ringsB rg = false := by
  unfold ringsB
  rcases Bool.eq_false_or_eq_true (ringsK rg rg.length) with h1 | h1
  · rw [ringsK_le hk h1] at h; cases h
  · rw [h1, Bool.and_false]
def markF (l : List (Int × Int)) (b : Int) (k : Nat) : List Bool := (List.range 128).map fun (j : Nat) => usdB l j || inR j (b, (k : Int))
theorem markF_len (l : List (Int × Int)) (b : Int) (k : Nat) : (markF l b k).length = 128 := by simp [markF]
theorem markF_zero (l : List (Int × Int)) (b b' : Int) : markF l b 0 = markF l b' 0 := by
  unfold markF
  refine List.map_congr_left fun j _ => ?_
  have e : ∀ c : Int, inR j (c, ((0 : Nat) : Int)) = false := fun c => by
    unfold inR; rw [decide_eq_false_iff_not]; simp only; omega
  rw [e, e]
theorem markF_get {l : List (Int × Int)} {b : Int} {k : Nat} {j : Nat} (hj : j < 128) : (markF l b k)[j]? = some (usdB l j || inR j (b, (k : Int))) := by
  unfold markF
  rw [List.getElem?_map, List.getElem?_range hj]; rfl
theorem markF_next {l : List (Int × Int)} {b : Int} {k m : Nat} (hm : b + k = m) (h : m < 128) : (markF l b k).set m true = markF l b (k + 1) := by
  apply List.ext_getElem?
  intro j
  rw [List.getElem?_set, markF_len]
  by_cases hj : j < 128
  · rw [markF_get hj, markF_get hj]
    by_cases e : m = j
    · subst e
      rw [if_pos rfl, if_pos h]
      have e1 : inR (m : Int) (b, ((k + 1 : Nat) : Int)) = true := inR_iff.2 (by simp only; omega)
      rw [e1, Bool.or_true]
    · rw [if_neg e]
      have e1 : inR (j : Int) (b, ((k + 1 : Nat) : Int)) = inR (j : Int) (b, (k : Int)) := by
        unfold inR
        rw [decide_eq_decide]
        simp only; omega
      rw [e1]
  · have e0 : (markF l b k)[j]? = none := List.getElem?_eq_none (by rw [markF_len]; omega)
    have e1 : (markF l b (k + 1))[j]? = none := List.getElem?_eq_none (by rw [markF_len]; omega)
    rw [e0, e1]
    rw [if_neg (by omega)]
theorem markF_ring {l : List (Int × Int)} {x : Int × Int} {b : Int} {n : Nat} (hn : x.2 = n) : markF l x.1 n = markF (l ++ [x]) b 0 := by
  unfold markF
  refine List.map_congr_left fun j _ => ?_
  have e : inR j (b, ((0 : Nat) : Int)) = false := by
    unfold inR; rw [decide_eq_false_iff_not]; simp only; omega
  rw [e]
  unfold usdB
  rw [List.any_append, Bool.or_false, List.any_cons, List.any_nil, Bool.or_false, ← hn]
theorem used_all {rg : List (Int × Int)} {j : Nat} {b : Int} (hj : j < 128) : (markF rg b 0)[j]? = some (usdB rg j) := by
  rw [markF_get hj]
  have e : inR j (b, ((0 : Nat) : Int)) = false := by
    unfold inR; rw [decide_eq_false_iff_not]; simp only; omega
  rw [e, Bool.or_false]
end Go.Proofs.YtpdpcgeeneajjaaDoor
end
