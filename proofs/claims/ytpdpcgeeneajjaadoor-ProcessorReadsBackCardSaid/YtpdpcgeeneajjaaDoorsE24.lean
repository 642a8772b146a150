/- Drafts of programs: the walk of Draft.Program of package world. Printed by gen_e24.py. -/
import Derived.Test.YtpdpcgeeneajjaaDoorsE15toU5
import Derived.Test.YtpdpcgeeneajjaaDoorsJ2
import Derived.Test.YtpdpcgeeneajjaaDoorsQtoU3
import Derived.Deep.DeepCutAuto
import Derived.Deep.CutBlock
set_option linter.unusedVariables false
set_option linter.unusedSimpArgs false
namespace Go.Proofs.YtpdpcgeeneajjaaDoor
open Go.RowKit
def prgL (d0 d1 d2 d3 c0 c1 c2 c3 : Int) (V X : Value) : List Value := [.int .i64 d0, .int .i64 d1, .int .i64 d2, .int .i64 d3, .int .i64 c0, .int .i64 c1, .int .i64 c2, .int .i64 c3, V, X]
theorem own_sets {base E sz n : Nat} {w w' : World} {v : Value} {xs : List Value} {g : Nat} (h : w.ownsRow base E sz v n xs) (hg : w.grownBy w' (some g)) (hlt : g < base) : w'.ownsRow base E sz v n xs :=
  h.kept hg (.inr (fun e => by have := (h.lt _ e).1; omega))
theorem size_prg : (Tryd.prog.info? 39).map (·.size) = some 10 := by kernel_rfl
theorem row_prg : ∃ d, Tryd.prog.underlying 39 = some d ∧ d.isRow = true := ⟨_, Tryd.underlying39, rfl⟩
def zeros10 : List Value := prgL 0 0 0 0 0 0 0 0 (.slice none 0 0) (.slice none 0 0)
abbrev dftV (dn cn : Int) (RA OA FA : Option Addr) (rn rc on oc fn fc : Nat) : Value := .agg #[.int .i64 dn, .int .i64 cn, .slice RA rn rc, .slice OA on oc, .slice FA fn fc]
structure DftP (w : World) (P : World → Prop) (dn cn : Int) (RA OA FA : Option Addr) (rn rc on oc fn fc : Nat) (rs os fs : List Int) : Prop where
  go : ∀ w1 w2, P w1 → Below w1.heap.size w1 w2 → P w2
  gr : ∀ w1 w2 g, P w1 → w1.grownBy w2 (some g) → w.heap.size + 2 ≤ g → P w2
  gl : ∀ w1 w2, P w1 → Below (w.heap.size + 2) w1 w2 → P w2
  old : ∀ w1, P w1 → Below w.heap.size w w1
  cells : ∀ w1, P w1 → w1.cell? ⟨w.heap.size, 0, none⟩ = some (.int .i64 dn) ∧ w1.cell? ⟨w.heap.size, 1, none⟩ = some (.int .i64 cn) ∧ w1.cell? ⟨w.heap.size, 2, none⟩ = some (.slice RA rn rc) ∧ w1.cell? ⟨w.heap.size, 3, none⟩ = some (.slice OA on oc) ∧
      w1.cell? ⟨w.heap.size, 4, none⟩ = some (.slice FA fn fc)
  res : ∀ w1, P w1 → Box w1 (w.heap.size + 1) zeros10
  rs : ∀ w1, P w1 → Ints w1 RA rs
  os : ∀ w1, P w1 → Ints w1 OA os
  fs : ∀ w1, P w1 → Ints w1 FA fs
  lt : ∀ w1, P w1 → w.heap.size + 2 ≤ w1.heap.size
theorem dftP_mk {w : World} {dn cn : Int} {RA OA FA : Option Addr} {rn rc on oc fn fc : Nat} {rs os fs : List Int} (hR : Ints w RA rs) (hO : Ints w OA os) (hF : Ints w FA fs) :
    DftP w (Below (w.heap.size + 2) ((w.alloc (.cells #[.int .i64 dn, .int .i64 cn, .slice RA rn rc, .slice OA on oc, .slice FA fn fc] 34)).alloc (.cells zeros10.toArray 39))) dn cn RA OA FA rn rc on oc fn fc rs os fs := by
  have hs : ∀ w1, Below (w.heap.size + 2) ((w.alloc (.cells #[.int .i64 dn, .int .i64 cn, .slice RA rn rc, .slice OA on oc, .slice FA fn fc] 34)).alloc (.cells zeros10.toArray 39)) w1 → w.heap.size + 2 ≤ w1.heap.size := fun w1 h => by have := h.size; simp at this; omega
  have old : ∀ w1, Below (w.heap.size + 2) ((w.alloc (.cells #[.int .i64 dn, .int .i64 cn, .slice RA rn rc, .slice OA on oc, .slice FA fn fc] 34)).alloc (.cells zeros10.toArray 39)) w1 → Below w.heap.size w w1 := fun w1 h =>
    (((Below.refl w.heap.size w).alloc (Nat.le_refl _) _).alloc (by simp) _).trans (h.mono (by omega))
  refine ⟨fun w1 w2 h h2 => h.trans (h2.mono (hs w1 h)), fun w1 w2 g h h2 hg => h.grown h2 (hs w1 h) (fun k e => by injection e with e; omega), fun w1 w2 h h2 => h.trans h2, old, fun w1 h => ?_, fun w1 h => ?_, fun w1 h => hR.grow (old w1 h), fun w1 h => hO.grow (old w1 h), fun w1 h => hF.grow (old w1 h), hs⟩
  · have a := fun (k : Nat) => h.cell (p := ⟨w.heap.size, k, none⟩) (by show w.heap.size < _; omega)
    exact ⟨(a 0).trans (by simp [go_sem]), (a 1).trans (by simp [go_sem]), (a 2).trans (by simp [go_sem]), (a 3).trans (by simp [go_sem]), (a 4).trans (by simp [go_sem])⟩
  · have hb : Box ((w.alloc (.cells #[.int .i64 dn, .int .i64 cn, .slice RA rn rc, .slice OA on oc, .slice FA fn fc] 34)).alloc (.cells zeros10.toArray 39)) (w.heap.size + 1) zeros10 := by
      have := Box.new (w := w.alloc (.cells #[.int .i64 dn, .int .i64 cn, .slice RA rn rc, .slice OA on oc, .slice FA fn fc] 34)) (vs := zeros10.toArray) (t := 39) (g := w.heap.size + 1) (by simp)
      simpa using this
    exact hb.block (h.block _ (by omega)) h.size
def drF1 (B R : Nat) (dn cn d0 d1 d2 d3 c0 c1 c2 c3 : Int) : Nat → Value → World → Prop
  | 0, v, _ => v = .pointer (some ⟨R, 0, none⟩)
  | 1, v, _ => v = .int .i64 dn
  | 2, v, _ => v = wordV d0 d1 d2 d3
  | 3, v, _ => v = .pointer (some ⟨R, 1, none⟩)
  | 4, v, _ => v = .int .i64 cn
  | 5, v, _ => v = wordV c0 c1 c2 c3
  | 6, v, _ => v = .agg (prgL d0 d1 d2 d3 c0 c1 c2 c3 (.slice none 0 0) (.slice none 0 0)).toArray
  | 7, v, w => ∃ q, v = .pointer (some ⟨q, 0, none⟩) ∧ B ≤ q ∧ Box w q zeros10
  | _, _, _ => True
theorem drF1_keep {B R : Nat} {dn cn d0 d1 d2 d3 c0 c1 c2 c3 : Int} {w w' : World} (h : Below w.heap.size w w') : ∀ i v, drF1 B R dn cn d0 d1 d2 d3 c0 c1 c2 c3 i v w → drF1 B R dn cn d0 d1 d2 d3 c0 c1 c2 c3 i v w'
  | 0, _, e => e | 1, _, e => e | 2, _, e => e | 3, _, e => e | 4, _, e => e | 5, _, e => e | 6, _, e => e
  | 7, _, ⟨q, e, hB, hb⟩ => ⟨q, e, hB, hb.keep h⟩
  | _ + 8, _, _ => trivial
def drF2 (R q : Nat) (V : Value) (RA : Option Addr) (ra : Addr) (rn rc k : Nat) (x y : Int) : Nat → Value → World → Prop
  | 0, v, _ => v = .pointer (some ⟨q, 8, none⟩)
  | 1, v, _ => v = V
  | 2, v, _ => v = .int .i64 k
  | 3, v, _ => v = .int .i64 (10 * (k : Int))
  | 4, v, _ => v = .int .i64 (20 + 10 * (k : Int))
  | 5, v, _ => v = .pointer (some ⟨R, 2, none⟩)
  | 6, v, _ => v = .slice RA rn rc
  | 7, v, _ => v = .int .i64 k
  | 8, v, _ => v = .pointer (some (ra.add k))
  | 9, v, _ => v = .int .i64 x
  | 10, v, _ => v = .int .i64 y
  | 11, v, _ => v = .int .i64 (1 + y)
  | 12, v, _ => v = .agg #[.int .i64 (20 + 10 * (k : Int)), .int .i64 (1 + y)]
  | 13, v, w => ∃ p, v = .slice (some ⟨p, 0, none⟩) 1 1 ∧ RingsAt w (some ⟨p, 0, none⟩) [(20 + 10 * (k : Int), 1 + y)]
  | _, _, _ => True
theorem drF2_keep {R q : Nat} {V : Value} {RA : Option Addr} {ra : Addr} {rn rc k : Nat} {x y : Int} {w w' : World} (h : Below w.heap.size w w') : ∀ i v, drF2 R q V RA ra rn rc k x y i v w → drF2 R q V RA ra rn rc k x y i v w'
  | 0, _, e => e | 1, _, e => e | 2, _, e => e | 3, _, e => e | 4, _, e => e | 5, _, e => e | 6, _, e => e | 7, _, e => e | 8, _, e => e | 9, _, e => e | 10, _, e => e | 11, _, e => e | 12, _, e => e
  | 13, _, ⟨p, e, hb⟩ => ⟨p, e, hb.grow h⟩
  | _ + 14, _, _ => trivial
def drR1 (q : Nat) (d0 d1 d2 d3 c0 c1 c2 c3 : Int) (rs : List Int) (P : World → Prop) (x : Value) (wr : World) : Prop :=
  ∃ (k : Nat) (V : Value), x = .int .i64 k ∧ k ≤ 3 ∧ k ≤ rs.length ∧ Hid (Box wr q (prgL d0 d1 d2 d3 c0 c1 c2 c3 V (.slice none 0 0))) ∧ Hid (OwnRg (q + 1) wr V (ringsF rs k)) ∧ Hid (P wr)
def drR2 (q B : Nat) (d0 d1 d2 d3 c0 c1 c2 c3 : Int) (V : Value) (rg : List (Int × Int)) (os fs : List Int) (most : Nat) (P : World → Prop) (x : Value) (wr : World) : Prop :=
  ∃ (k : Nat) (X : Value), x = .int .i64 k ∧ k ≤ most ∧ k ≤ os.length ∧ Hid (Box wr q (prgL d0 d1 d2 d3 c0 c1 c2 c3 V X)) ∧ Hid (OwnRg (q + 1) wr V rg) ∧ Hid (OwnIR B wr X (codeK c0 c1 c2 c3 rg os fs k)) ∧ Hid (P wr) ∧ B ≤ wr.heap.size
def RetPrgC (w : World) (d : PrgD) (e : Ending) (w' : World) : Prop := ∃ u : PrgA, u.d = d ∧ e = .returned u.v ∧ PrgAt w' u ∧ Below w.heap.size w w' ∧ u.d.code.length ≤ u.cc
set_option maxRecDepth 100000 in
set_option maxHeartbeats 16000000 in
theorem dr_ProgramC (dn cn : Int) (RA OA FA : Option Addr) (rn rc on oc fn fc most : Nat) (rs os fs : List Int) (w : World) (hR : Ints w RA rs) (hO : Ints w OA os) (hF : Ints w FA fs) (hrn : rs.length = rn) (hon : os.length = on) (hfn : fs.length = fn) (r9 : rn ≤ 9223372036854775807) (o9 : on ≤ 9223372036854775807) (f9 : fn ≤ 9223372036854775807) (hm : most ≤ 1000) :
    Calls Tryd.prog 12 #[dftV dn cn RA OA FA rn rc on oc fn fc, .int .i64 most] w (RetPrgC w (prgF dn cn rs os fs most)) := by
  have HRN := Lib.hid hrn
  have HON := Lib.hid hon
  have HFN := Lib.hid hfn
  have hPB : ∃ P : World → Prop, P ((w.alloc (.cells #[.int .i64 dn, .int .i64 cn, .slice RA rn rc, .slice OA on oc, .slice FA fn fc] 34)).alloc (.cells #[.int .i64 0, .int .i64 0, .int .i64 0, .int .i64 0, .int .i64 0, .int .i64 0, .int .i64 0, .int .i64 0, .slice none 0 0, .slice none 0 0] 39)) ∧ DftP w P dn cn RA OA FA rn rc on oc fn fc rs os fs := ⟨_, Below.refl _ _, dftP_mk hR hO hF⟩
  obtain ⟨P, HP0, PN0⟩ := hPB
  have HP := Lib.hid HP0
  have PN := Lib.hid PN0
  clear HP0 PN0 hrn hon hfn hR hO hF
  obtain ⟨⟨d0, d1, d2, d3⟩, hD⟩ : ∃ D, mkW dn 6 12 2 = D := ⟨_, rfl⟩
  obtain ⟨⟨c0, c1, c2, c3⟩, hC⟩ : ∃ C, mkW cn 6 9 1 = C := ⟨_, rfl⟩
  have HPR : Hid (prgF dn cn rs os fs most = ⟨d0, d1, d2, d3, c0, c1, c2, c3, ringsF rs (min rs.length 3), codeK c0 c1 c2 c3 (ringsF rs (min rs.length 3)) os fs (min os.length most) ++ [⟨0, 0, 0, 0⟩]⟩) := by
    show _ = _
    unfold prgF
    rw [hD, hC]
  have HD := Lib.hid hD
  have HC := Lib.hid hC
  clear hD hC
  go_enter Tryd.func12, Tryd.ntmps12
  go_upto_region 1 with fail
  have hp0 := HP.out
  generalize ((w.alloc (.cells #[.int .i64 dn, .int .i64 cn, .slice RA rn rc, .slice OA on oc, .slice FA fn fc] 34)).alloc (.cells #[.int .i64 0, .int .i64 0, .int .i64 0, .int .i64 0, .int .i64 0, .int .i64 0, .int .i64 0, .int .i64 0, .slice none 0 0, .slice none 0 0] 39)) = W0 at hp0 ⊢
  have HP0 := Lib.hid hp0
  clear HP hp0
  refine wp_region_grow 8 P (fun w1 w2 => Below w1.heap.size w1 w2) (drF1 (w.heap.size + 2) w.heap.size dn cn d0 d1 d2 d3 c0 c1 c2 c3) (by kernel_rfl) (by kernel_rfl) (PN.out.go _ _ HP0.out (Below.drew (Below.refl _ _))) (fun w1 w2 h1 h2 => ⟨PN.out.go _ _ h1 h2, fun i _ v => drF1_keep h2 i v⟩) ?_ ?_
  · refine ⟨?_, ?_, ?_, ?_, ?_, ?_, ?_, ?_, trivial⟩
    all_goals
      intro vs w1 hp hF
      obtain ⟨z0, z1, z2, z3, z4⟩ := PN.out.cells _ hp
      simp [depsB, Region.binds, drF1] at hF
      simp [stL, depsB, Region.binds, Act.put, hF]
    all_goals try (go_wp2_with fail; exact ⟨rfl, Below.refl _ _⟩)
    · go_wp2_with fail
      refine (wd_Data dn _).mono ?_
      rw [HD.out]
      rintro e w2 ⟨rfl, hb2⟩
      go_wp2_with fail
      exact rfl
    · go_wp2_with fail
      refine (wd_Coef cn _).mono ?_
      rw [HC.out]
      rintro e w2 ⟨rfl, hb2⟩
      go_wp2_with fail
      exact rfl
    · go_wp2_with fail
      exact ⟨⟨_, rfl, PN.out.lt _ hp, Box.new rfl⟩, Below.alloc (Below.refl _ _) (Nat.le_refl _) _⟩
  intro vs w1 hp hF
  have e6 : vs 6 = .agg (prgL d0 d1 d2 d3 c0 c1 c2 c3 (.slice none 0 0) (.slice none 0 0)).toArray := hF 6 (by decide)
  obtain ⟨q, e7, hqb, hq⟩ := hF 7 (by decide)
  simp [stL, Act.put, e6, e7]
  generalize vs 0 = v0
  generalize vs 1 = v1
  generalize vs 2 = v2
  generalize vs 3 = v3
  generalize vs 4 = v4
  generalize vs 5 = v5
  clear hF e6 e7 vs
  refine wp_st rfl 39 _ _ rfl q 0 (prgL d0 d1 d2 d3 c0 c1 c2 c3 (.slice none 0 0) (.slice none 0 0)) rfl rfl size_prg rfl hq (by show 0 + 10 ≤ 10; omega) rfl ?_
  intro w2 hb2 hg2
  have HB2 : Hid (Box w2 q (prgL d0 d1 d2 d3 c0 c1 c2 c3 (.slice none 0 0) (.slice none 0 0))) := hb2
  have HP2 := Lib.hid (PN.out.gr _ _ q hp hg2 hqb)
  clear hb2 hg2 hp hq
  go_upto_region 2 with fail
  obtain ⟨o1, o2, o3, o4⟩ : 4 ≤ c0 ∧ c0 ≤ 24 ∧ 0 ≤ c1 ∧ c1 ≤ c0 - 1 := by
    have h := mkWC_ok cn
    rw [HC.out] at h
    obtain ⟨a1, a2, a3, a4, _⟩ := okW_iff.1 h
    exact ⟨a1, a2, a3, a4⟩
  go_upto_block 0 with fail
  go_cut [6] (fun _ wx => ∃ V : Value, Hid (Box wx q (prgL d0 d1 d2 d3 c0 c1 c2 c3 V (.slice none 0 0))) ∧ Hid (OwnRg (q + 1) wx V (ringsF rs (min rs.length 3))) ∧ Hid (P wx))
  case first =>
    go_wp2_with fail
    go_loopw [6] (fun x wr => drR1 q d0 d1 d2 d3 c0 c1 c2 c3 rs P x wr) (fun x _ => 3 - (intOf x).toNat)
    case atStart => exact ⟨0, .slice none 0 0, rfl, by omega, Nat.zero_le _, HB2, OwnRg.nil, HP2⟩
    case round =>
      obtain ⟨k, V, rfl, hk3, hkr, HB, HO, HPP⟩ := hrel
      obtain ⟨z0, z1, z2, z3, z4⟩ := PN.out.cells _ HPP.out
      have y8 := HB.out.2.1 8
      rw [HRN.out] at hkr
      by_cases hlt : k < rn ∧ k < 3
      · obtain ⟨hk1, hk2⟩ := hlt
        obtain ⟨ra, x, rfl, hrb, hx, hrc, -, -⟩ := (PN.out.rs _ HPP.out).at_ (k := k) (by rw [HRN.out]; exact hk1)
        have hgx : rs.getD k 0 = x := by rw [List.getD_eq_getElem?_getD, hx]; rfl
        obtain ⟨y, hy⟩ : ∃ y, withinF x 6 = y := ⟨_, rfl⟩
        have hy1 := within_in (m := 6) (by omega) x
        rw [hy] at hy1
        obtain ⟨hy1, hy2⟩ := hy1
        have hwi : Hid (∀ w, Calls Tryd.prog 16 #[.int .i64 x, .int .i64 6] w fun e w' => e = .returned (.int .i64 y) ∧ w = w') := fun w => by rw [← hy]; exact wd_Within _ _ w (by omega)
        have HGX : Hid (ringsF rs (k + 1) = ringsF rs k ++ [(20 + 10 * (k : Int), 1 + y)]) := by show _ = _; rw [ringsF_succ, hgx, hy]
        have x1 : (0 : Int) ≤ (k : Int) := by omega
        have x2 : (k : Int) < (rn : Int) := by omega
        have x3 : decide ((k : Int) < 3) = true := by simp; omega
        have f1 : IntKind.i64.wrap (10 * (k : Int)) = 10 * (k : Int) := IntWalk.i64_in _ (by omega)
        have f2 : IntKind.i64.wrap (20 + 10 * (k : Int)) = 20 + 10 * (k : Int) := IntWalk.i64_in _ (by omega)
        have f3 : IntKind.i64.wrap (1 + y) = 1 + y := IntWalk.i64_in _ (by omega)
        have wk : IntKind.i64.wrap ((k : Int) + 1) = ((k + 1 : Nat) : Int) := (IntWalk.i64_in _ (by omega)).trans (by omega)
        have hqr := HB.out.1
        have hwr : w.heap.size < wr.heap.size := by have := PN.out.lt _ HPP.out; omega
        have S0 : Hid ((wr.cell? ⟨w.heap.size, 2, none⟩ = some (.slice (some ra) rn rc) ∧ wr.cell? ⟨q, 8, none⟩ = some V) ∧ wr.cell? (ra.add k) = some (.int .i64 x) ∧ ra.block < wr.heap.size) := ⟨⟨z2, y8⟩, hrc, hrb⟩
        have hi : I64 (20 + 10 * (k : Int)) ∧ I64 (1 + y) := ⟨⟨by omega, by omega⟩, ⟨by omega, by omega⟩⟩
        have HI := Lib.hid hi
        clear hx hgx hy hi z0 z1 z3 z4 hrc
        go_upto_region 5 with fail
        clear z2 y8
        refine wp_region_grow2 (fun i => Nat.blt i 14) (fun _ => false) (Below wr.heap.size wr) (fun w1 w2 => Below w1.heap.size w1 w2) (drF2 w.heap.size q V (some ra) ra rn rc k x y) (by kernel_rfl) (by kernel_rfl) (Below.drew (Below.refl _ _)) (fun w1 w2 h1 h2 => ⟨below_then h1 h2, fun i _ v => drF2_keep h2 i v⟩) (fun _ _ => Below.refl _ _) ?_ ?_ ?_
        · refine ⟨?_, ?_, ?_, ?_, ?_, ?_, ?_, ?_, ?_, ?_, ?_, ?_, ?_, ?_, trivial⟩
          all_goals
            intro vs w1 hb1 hF
            have z2 := (hb1.cell (p := ⟨w.heap.size, 2, none⟩) hwr).trans S0.out.1.1
            have y8 := (hb1.cell (p := ⟨q, 8, none⟩) hqr).trans S0.out.1.2
            have hrc := (hb1.cell (by rw [block_add]; exact S0.out.2.2)).trans S0.out.2.1
            simp [depsB, Region.binds, drF2] at hF
            simp [stL, depsB, Region.binds, Act.put, hF]
          all_goals try (go_wp2_with fail; exact ⟨rfl, Below.refl _ _⟩)
          · go_wp2_with fail
            refine (hwi.out _).mono ?_
            rintro e w3 ⟨rfl, rfl⟩
            go_wp2_with fail
            exact ⟨rfl, Below.refl _ _⟩
          · refine bld_ring1 (i := (20 + 10 * (k : Int), 1 + y)) rfl _ rfl rfl ?_
            go_wp2_with fail
            obtain ⟨A7, c7, e7, -, h7⟩ := (OwnRg.single (w := w1) (i := (20 + 10 * (k : Int), 1 + y)) HI.out).form
            injection e7 with e7
            exact ⟨⟨_, rfl, by rw [e7]; exact h7⟩, Below.alloc (Below.refl _ _) (Nat.le_refl _) _⟩
        · intro j' o hj' _ hl
          exact absurd hl (by simp)
        · intro vs w1 hb1 hF
          have e1 : vs 1 = V := hF 1 (by decide) (by decide)
          obtain ⟨p, e13, hIp⟩ := hF 13 (by decide) (by decide)
          have hOX := HO.out.grow hb1
          have hBX := HB.out.keep hb1
          have hP1 := PN.out.go _ _ HPP.out hb1
          have hlx : (ringsF rs k).length + 1 ≤ 100000000 := by rw [ringsF_length]; omega
          have hbx : q + 1 ≤ w1.heap.size := hBX.1
          obtain ⟨v0, hv0⟩ : ∃ v0, vs = v0 := ⟨_, rfl⟩
          show wpList Tryd.prog _ _ [_, _, _] _ _
          simp [stL, Act.put, e1, e13]
          refine app_ring w1 rfl _ _ rfl (q + 1) (v := V) (m := [(20 + 10 * (k : Int), 1 + y)]) rfl rfl hOX hIp rfl hlx hbx ?_
          intro v3 w3 hown3 hg3
          have hB3 := hBX.grown hg3 (fun e => by have := (hOX.1.lt q e.symm).1; omega)
          have hP3 := PN.out.gl _ _ hP1 ((own_below (Below.refl _ _) hbx hOX.ge hg3).mono (by have := PN.out.lt _ HPP.out; omega))
          have t8 := hB3.2.1 8
          have tf8 := hB3.2.2
          have tl8 := hB3.1
          rw [← HGX.out] at hown3
          obtain ⟨A3, c3x, e3, -, -⟩ := hown3.form
          rw [ringsF_length] at e3
          subst e3
          clear hIp hBX hOX hP1 hg3 hv0 e1 e13 hF
          go_wp2_with fail
          go_roundw
          case rel =>
            have hgs := grown_set (k := 8) (u := .slice A3 (k + 1) c3x) (grown_refl w3 (some q))
            exact ⟨k + 1, _, rfl, by omega, by rw [HRN.out]; omega, hB3.set (k := 8) (by show 8 < 10; omega), hown3.store (by omega), PN.out.gr _ _ q hP3 hgs (by omega)⟩
          case measure => simp [intOf]; omega
      · have hm3 : k = min rs.length 3 := by rw [HRN.out]; omega
        rw [hm3] at HO
        by_cases hk : k < rn
        · have x2 : (k : Int) < (rn : Int) := by omega
          have x3 : decide ((k : Int) < 3) = false := by simp; omega
          clear hm3
          go_wp2_with fail
          go_meet
          exact ⟨V, HB, HO, HPP⟩
        · have x2 : ¬ (k : Int) < (rn : Int) := by omega
          clear hm3
          go_wp2_with fail
          go_meet
          exact ⟨V, HB, HO, HPP⟩
  case rest =>
    obtain ⟨V, HB, HO, HPP⟩ := hcut
    obtain ⟨rg, hrg⟩ : ∃ x, ringsF rs (min rs.length 3) = x := ⟨_, rfl⟩
    obtain ⟨gA, gc, hV, -, -⟩ := HO.out.form
    have hgl : rg.length = min rs.length 3 := by rw [← hrg, ringsF_length]
    have hg6 : ∀ x ∈ rg, 1 ≤ x.2 ∧ x.2 ≤ 6 := fun x hx => by
      rw [← hrg] at hx
      obtain ⟨k, -, rfl⟩ := List.mem_map.1 hx
      have := within_in (m := 6) (by omega) (rs.getD k 0)
      show 1 ≤ 1 + _ ∧ 1 + _ ≤ 6
      omega
    rw [hrg] at HO hV HPR
    obtain ⟨gn, hgn⟩ : ∃ x, rg.length = x := ⟨_, rfl⟩
    have hgn3 : gn ≤ 3 := by omega
    rw [hgn] at hV
    subst hV
    obtain ⟨B2, hB2⟩ : ∃ n, wc.heap.size = n := ⟨_, rfl⟩
    have HVB : Hid (∀ j, (Value.slice gA gn gc).ownBlock = some j → j < B2) := fun j e => by rw [← hB2]; exact (HO.out.1.lt j e).2
    have HQB : Hid (q < B2) := by rw [← hB2]; exact HB.out.1
    have HB2L : Hid (B2 ≤ wc.heap.size) := Nat.le_of_eq hB2.symm
    have HG6 := Lib.hid hg6
    have HGN := Lib.hid hgn
    clear hrg hgl hg6 hgn hB2
    go_upto_block 2 with fail
    go_cut [7] (fun _ wx => ∃ X : Value, Hid (Box wx q (prgL d0 d1 d2 d3 c0 c1 c2 c3 (.slice gA gn gc) X)) ∧ Hid (OwnRg (q + 1) wx (.slice gA gn gc) rg) ∧ Hid (OwnIR B2 wx X (codeK c0 c1 c2 c3 rg os fs (min os.length most))) ∧ Hid (P wx) ∧ B2 ≤ wx.heap.size)
    case first =>
      go_wp2_with fail
      go_loopw [7] (fun x wr => drR2 q B2 d0 d1 d2 d3 c0 c1 c2 c3 (.slice gA gn gc) rg os fs most P x wr) (fun x _ => most - (intOf x).toNat)
      case atStart => exact ⟨0, .slice none 0 0, rfl, Nat.zero_le _, Nat.zero_le _, HB, HO, OwnIR.nil, HPP, HB2L.out⟩
      case round =>
        obtain ⟨k, X, rfl, hkm, hko, HB, HO, HX, HPP, hB2w⟩ := hrel
        obtain ⟨z0, z1, z2, z3, z4⟩ := PN.out.cells _ HPP.out
        rw [HON.out] at hko
        by_cases hlt : k < on ∧ k < most
        · obtain ⟨hk1, hk2⟩ := hlt
          obtain ⟨a, ha⟩ : ∃ y, withinF (atF fs (2 * (k : Int))) 1000 = y := ⟨_, rfl⟩
          obtain ⟨b, hb⟩ : ∃ y, withinF (atF fs (2 * (k : Int) + 1)) 1048576 = y := ⟨_, rfl⟩
          obtain ⟨ya, hya⟩ : ∃ y, atF fs (2 * (k : Int)) = y := ⟨_, rfl⟩
          obtain ⟨yb, hyb⟩ : ∃ y, atF fs (2 * (k : Int) + 1) = y := ⟨_, rfl⟩
          obtain ⟨y, hy⟩ : ∃ y, wordF c0 c1 c2 c3 (b - 524288) = y := ⟨_, rfl⟩
          obtain ⟨oa, ov, rfl, hob, hov, hoc, -, -⟩ := (PN.out.os _ HPP.out).at_ (k := k) (by rw [HON.out]; exact hk1)
          obtain ⟨u, hu⟩ : ∃ y, withinF ov 11 = y := ⟨_, rfl⟩
          have hgo : os.getD k 0 = ov := by rw [List.getD_eq_getElem?_getD, hov]; rfl
          have HIK : Hid (insK c0 c1 c2 c3 rg os fs k = insF rg (1 + u) a b y) := by
            show _ = _
            unfold insK
            rw [hgo, hu, ha, hb, hy]
          rw [hya] at ha
          rw [hyb] at hb
          have ha1 := within_in (m := 1000) (by omega) ya
          have hb1 := within_in (m := 1048576) (by omega) yb
          have hu1 := within_in (m := 11) (by omega) ov
          rw [ha] at ha1
          rw [hb] at hb1
          rw [hu] at hu1
          obtain ⟨ha1, ha2⟩ := ha1
          obtain ⟨hb1, hb2⟩ := hb1
          obtain ⟨hu1, hu2⟩ := hu1
          have CA : Hid (∀ w1, Below wr.heap.size wr w1 → Calls Tryd.prog 30 #[.slice FA fn fc, .int .i64 (2 * (k : Int))] w1 fun e w' => e = .returned (.int .i64 ya) ∧ Below w1.heap.size w1 w') := fun w1 hb => by
            have := wd_At FA fs fc (2 * (k : Int)) w1 (PN.out.fs _ (PN.out.go _ _ HPP.out hb))
            rw [HFN.out, hya] at this
            exact this.mono fun e w' ⟨h1, h2⟩ => ⟨h1, h2 ▸ Below.refl _ _⟩
          have CB : Hid (∀ w1, Below wr.heap.size wr w1 → Calls Tryd.prog 30 #[.slice FA fn fc, .int .i64 (2 * (k : Int) + 1)] w1 fun e w' => e = .returned (.int .i64 yb) ∧ Below w1.heap.size w1 w') := fun w1 hb => by
            have := wd_At FA fs fc (2 * (k : Int) + 1) w1 (PN.out.fs _ (PN.out.go _ _ HPP.out hb))
            rw [HFN.out, hyb] at this
            exact this.mono fun e w' ⟨h1, h2⟩ => ⟨h1, h2 ▸ Below.refl _ _⟩
          have CC : Hid (∀ w1, Calls Tryd.prog 16 #[.int .i64 ya, .int .i64 1000] w1 fun e w' => e = .returned (.int .i64 a) ∧ Below w1.heap.size w1 w') := fun w1 => by
            rw [← ha]
            exact (wd_Within ya 1000 w1 (by omega)).mono fun e w' ⟨h1, h2⟩ => ⟨h1, h2 ▸ Below.refl _ _⟩
          have CD : Hid (∀ w1, Calls Tryd.prog 16 #[.int .i64 yb, .int .i64 1048576] w1 fun e w' => e = .returned (.int .i64 b) ∧ Below w1.heap.size w1 w') := fun w1 => by
            rw [← hb]
            exact (wd_Within yb 1048576 w1 (by omega)).mono fun e w' ⟨h1, h2⟩ => ⟨h1, h2 ▸ Below.refl _ _⟩
          have CE : Hid (∀ w1, Calls Tryd.prog 16 #[.int .i64 ov, .int .i64 11] w1 fun e w' => e = .returned (.int .i64 u) ∧ w1 = w') := fun w1 => by
            rw [← hu]
            exact wd_Within ov 11 w1 (by omega)
          have CW : Hid (∀ w1 A, Ints w1 A [b - 524288] → Calls Tryd.prog 31 #[wordV c0 c1 c2 c3, .slice A 1 1, .int .i64 1] w1 fun e w' => ∃ ad c, e = .returned (.slice (some ad) 1 c) ∧ ad.block < w'.heap.size ∧ w'.cell? ad = some (.int .i64 y) ∧ Below w1.heap.size w1 w') := fun w1 A hi => by
            refine (wd_Words c0 c1 c2 c3 A [b - 524288] 1 1 w1 (by omega) hi).mono ?_
            rintro e w' ⟨v, he, ho, hb⟩
            have e1 : wordsF c0 c1 c2 c3 [b - 524288] 1 = [y] := by
              show [wordF c0 c1 c2 c3 (atF [b - 524288] ((0 : Nat) : Int))] = [y]
              rw [show atF [b - 524288] ((0 : Nat) : Int) = b - 524288 from rfl, hy]
            rw [e1] at ho
            obtain ⟨A1, c, rfl, -, hi1⟩ := ho.form
            obtain ⟨ad, z, rfl, hbk, hz, hc, -, -⟩ := hi1.at_ (k := 0) (by simp)
            obtain rfl : y = z := Option.some.inj hz
            have e2 : ad.add 0 = ad := by simp [Addr.add]
            rw [e2] at hc
            exact ⟨ad, c, he, hbk, hc, hb⟩
          have HY := Lib.hid hy
          have x1 : (0 : Int) ≤ (k : Int) := by omega
          have x2 : (k : Int) < (on : Int) := by omega
          have x3 : (k : Int) < (most : Int) := by omega
          have x4 : decide ((k : Int) < (most : Int)) = true := by simp; omega
          have f1 : IntKind.i64.wrap (2 * (k : Int)) = 2 * (k : Int) := IntWalk.i64_in _ (by omega)
          have f2 : IntKind.i64.wrap (2 * (k : Int) + 1) = 2 * (k : Int) + 1 := IntWalk.i64_in _ (by omega)
          have wk : IntKind.i64.wrap ((k : Int) + 1) = ((k + 1 : Nat) : Int) := (IntWalk.i64_in _ (by omega)).trans (by omega)
          have hwr : w.heap.size < wr.heap.size := by have := PN.out.lt _ HPP.out; omega
          have HZ3 := Lib.hid z3
          have HOC : Hid (wr.cell? (oa.add k) = some (.int .i64 ov) ∧ oa.block < wr.heap.size) := ⟨hoc, hob⟩
          have z4e : ∀ n : Ext wr, n.to.cell? ⟨w.heap.size, 4, none⟩ = some (.slice FA fn fc) := fun n => (n.cell _ hwr).trans z4
          clear ha hb hya hyb hy hu hgo hov hoc hob z0 z1 z2 z4
          go_upto_region 9 with fail
          refine wp_region_ext (by kernel_rfl) (by kernel_rfl) ?_
          repeat (go_big_quiet_step (first
            | (go_at_call 30; first | (with_reducible exact ext_below (CA.out _ (Ext.below _))) | (with_reducible exact ext_below (CB.out _ (Ext.below _))))
            | (go_at_call 16; first | (with_reducible exact ext_below (CC.out _)) | (with_reducible exact ext_below (CD.out _)))))
          refine wpQuiet_nil ?_
          rintro w9 ⟨⟨_, hb9⟩, rfl⟩
          have HB9 := Lib.hid hb9
          have z3 := (hb9.cell (p := ⟨w.heap.size, 3, none⟩) hwr).trans HZ3.out
          have hoc := (hb9.cell (p := oa.add k) (by rw [block_add]; exact HOC.out.2)).trans HOC.out.1
          have f3 : IntKind.i64.wrap (1 + u) = 1 + u := IntWalk.i64_in _ (by omega)
          have HBN : Hid (Box (w9.alloc (.cells #[.int .i64 0, .int .i64 0, .int .i64 0, .int .i64 0] 50)) w9.heap.size Ins.zero.cells) := Lib.hid (Box.new rfl)
          clear hb9 f1 f2 z4e CA CB CC CD HZ3 HOC
          go_upto_region 11 with (first
            | (go_at_call 16; (with_reducible refine (CE.out _).mono ?_); rintro e w10 ⟨rfl, rfl⟩)
            | ((with_reducible show wpList _ _ _ (Oper.mk none (.store 50 _ _) _ _ _ _ :: _) _ _); refine st_ins (j := ⟨1 + u, 0, 0, 0⟩) HBN.out rfl _ _ rfl rfl rfl ?_; intro w10 hb10 hg10))
          obtain ⟨g, hg⟩ : ∃ g, w9.heap.size = g := ⟨_, rfl⟩
          have hb10b : Below w9.heap.size w9 w10 := ((Below.refl w9.heap.size w9).alloc (Nat.le_refl _) _).grown hg10 (by simp) (fun j e => by injection e with e; omega)
          have hwb : Below wr.heap.size wr w10 := below_then HB9.out hb10b
          have hqr := HB.out.1
          have hgq : q < g := by have := HB9.out.size; omega
          have hB10 := HB.out.keep hwb
          have y4 : w10.cell? ⟨q, 4, none⟩ = some (.int .i64 c0) := hB10.2.1 4
          have y5 : w10.cell? ⟨q, 5, none⟩ = some (.int .i64 c1) := hB10.2.1 5
          have y6 : w10.cell? ⟨q, 6, none⟩ = some (.int .i64 c2) := hB10.2.1 6
          have y7 : w10.cell? ⟨q, 7, none⟩ = some (.int .i64 c3) := hB10.2.1 7
          have f4 : IntKind.i64.wrap (b - 524288) = b - 524288 := IntWalk.i64_in _ (by omega)
          have HIB : Hid (I64 (b - 524288)) := ⟨by omega, by omega⟩
          have HWB := Lib.hid hwb
          have HB10 := Lib.hid hb10
          have HG := Lib.hid hg
          clear hB10 hb10 hg10 hb10b hwb hg hoc z3
          go_upto_region 12 with (first
            | (go_at_call 31; (with_reducible refine (CW.out _ _ (lit_one HIB.out)).mono ?_); rintro e w12 ⟨ad, ac, rfl, hbk, hac, hb12⟩))
          have hb12w : Below w10.heap.size w10 w12 := (below_then ((Below.refl w10.heap.size w10).alloc (Nat.le_refl _) _) hb12)
          have hwb : Below wr.heap.size wr w12 := below_then HWB.out hb12w
          rw [HG.out] at HB10 ⊢
          have HBG := Lib.hid (HB10.out.keep hb12w)
          have HW12 := Lib.hid hwb
          have hgw : g < w12.heap.size := HBG.out.1
          clear hb12 hb12w hwb hbk hac HB10 HBN HWB CE CW
          obtain ⟨op, hop⟩ : ∃ x, 1 + u = x := ⟨_, rfl⟩
          have hop1 : 1 ≤ op ∧ op ≤ 11 := by omega
          have HOPS : Hid (op = 1 ∨ op = 2 ∨ op = 3 ∨ op = 4 ∨ op = 5 ∨ op = 6 ∨ op = 7 ∨ op = 8 ∨ op = 9 ∨ op = 10 ∨ op = 11) := by show _ ∨ _; omega
          rw [hop] at HBG HIK ⊢
          obtain ⟨t0, -⟩ := HBG.out.c4
          have hy64 : I64 y := by
            have h1 := low_high c0 c1 c2 c3
            have h2 := within_in (m := highW c0 c1 c2 c3 - lowW c0 c1 c2 c3 + 1) (by omega) (wrap64 (b - 524288 - lowW c0 c1 c2 c3))
            have h3 := HY.out
            unfold wordF at h3
            exact ⟨by omega, by omega⟩
          have HOKI : Hid (insF rg op a b y).ok := insF_ok hop1 ⟨ha1, ha2⟩ ⟨hb1, hb2⟩ hy64 (by rw [HGN.out]; exact hgn3) HG6.out
          clear hop hop1 f3 f4 hu1 hu2 hy64
          go_upto_block 4 with fail
          clear t0
          go_cut [89] (fun _ wx => Hid (Box wx g (insF rg op a b y).cells) ∧ Hid (w12.grownBy wx (some g)))
          case first =>
            obtain ⟨t0, t1, t2, t3⟩ := HBG.out.c4
            have tf := HBG.out.2.2
            have y8 : w12.cell? ⟨q, 8, none⟩ = some (.slice gA gn gc) := (HB.out.keep HW12.out).2.1 8
            have a1 : a.tmod 4 = a % 4 := Int.tmod_eq_emod_of_nonneg ha1
            have a2 : a.tmod 10 = a % 10 := Int.tmod_eq_emod_of_nonneg ha1
            have b1 : b.tmod 4 = b % 4 := Int.tmod_eq_emod_of_nonneg hb1
            have b2 : b.tmod 10 = b % 10 := Int.tmod_eq_emod_of_nonneg hb1
            clear y4 y5 y6 y7 wk x1 x2 x3 x4
            rcases HOPS.out with rfl | rfl | rfl | rfl | rfl | rfl | rfl | rfl | rfl | rfl | rfl
            · go_wp2_with fail
              go_meet
              exact ⟨by show Box _ _ _; rw [insF_1]; exact HBG.out, grown_refl w12 (some g)⟩
            · go_wp2_with fail
              go_meet
              exact ⟨by show Box _ _ _; rw [insF_2]; exact boxI_m (boxI_a HBG.out), grown_set (grown_set (grown_refl w12 (some g)))⟩
            · go_wp2_with fail
              go_meet
              exact ⟨by show Box _ _ _; rw [insF_3]; exact boxI_m (boxI_a HBG.out), grown_set (grown_set (grown_refl w12 (some g)))⟩
            · rcases Nat.eq_zero_or_pos gn with hg0 | hgp
              · subst hg0
                go_wp2_with fail
                go_meet
                exact ⟨by show Box _ _ _; rw [insF_40 a b y HGN.out]; exact boxI_all HBG.out, grown_set (grown_set (grown_set (grown_set (grown_refl w12 (some g)))))⟩
              · obtain ⟨m, hm0⟩ := Int.eq_ofNat_of_zero_le (show 0 ≤ a % (gn : Int) from Int.emod_nonneg _ (by omega))
                have hmn : m < gn := by have := Int.emod_lt_of_pos a (show (0 : Int) < (gn : Int) by omega); omega
                obtain ⟨x, hx⟩ : ∃ x, rg[m]? = some x := ⟨_, List.getElem?_eq_getElem (by rw [HGN.out]; exact hmn)⟩
                have e0 : ((gn : Int) == 0) = false := by simp; omega
                have e1 : (gn : Int) ≠ 0 := by omega
                have e2 : a.tmod (gn : Int) = (m : Int) := (Int.tmod_eq_emod_of_nonneg ha1).trans hm0
                have hx6 := HG6.out x (List.mem_of_getElem? hx)
                obtain ⟨hx1, hx2⟩ := hx6
                have HIN : Hid (insF rg 4 a b y = ⟨4, m, a / 10 % x.2, y⟩) := insF_4 HGN.out hgp hm0 hx
                obtain ⟨gA2, gc2, hV, -, hRA⟩ := (HO.out.grow HW12.out).form
                injection hV with hV1 hV2 hV3
                subst hV1
                obtain ⟨ga, rfl, hgs, hgb, hgr, -, -⟩ := hRA m x hx
                obtain ⟨gA3, gc3, hV, -, hRA0⟩ := HO.out.form
                injection hV with hV1 hV5 hV6
                obtain ⟨ga2, hga2, -, hgb2, -, -, -⟩ := hRA0 m x hx
                rw [← hV1] at hga2
                injection hga2 with hga2
                subst hga2
                obtain ⟨-, hrl⟩ := ring_cells hgs hgr
                have hne : ga.block ≠ g := by have := HW12.out.size; have := HB9.out.size; have := HG.out; omega
                clear hx hgr hRA hRA0 hV1 hV2 hV3 hV5 hV6 hgb hgb2
                go_upto_region 24 with fail
                have hB3 := boxI_a (v := (m : Int)) HBG.out
                have hrl3 := (World.cell?_setCell_other w12 ⟨g, 1, none⟩ ⟨(ga.add (m * 2)).block, (ga.add (m * 2)).off + 1, none⟩ (.int .i64 (m : Int)) (by intro e; injection e with e; rw [block_add] at e; exact hne e.symm)).trans hrl
                have hy8 : (w12.setCell ⟨g, 1, none⟩ (.int .i64 (m : Int))).cell? ⟨q, 8, none⟩ = some (.slice (some ga) gn gc) := (World.cell?_setCell_other w12 ⟨g, 1, none⟩ ⟨q, 8, none⟩ (.int .i64 (m : Int)) (by intro e; injection e with e; omega)).trans y8
                have hG3 : Hid (w12.grownBy (w12.setCell ⟨g, 1, none⟩ (.int .i64 (m : Int))) (some g)) := grown_set (grown_refl w12 (some g))
                have HB3 := Lib.hid hB3
                clear t0 t1 t2 t3 tf y8 hrl
                generalize w12.setCell ⟨g, 1, none⟩ (.int .i64 (m : Int)) = w13 at HB3 hrl3 hy8 hG3 ⊢
                clear hB3
                obtain ⟨t0, t1, t2, t3⟩ := HB3.out.c4
                have tf := HB3.out.2.2
                have x7 : (0 : Int) ≤ (m : Int) := by omega
                have x8 : (m : Int) < (gn : Int) := by omega
                have x9 : 0 ≤ a / 10 := by omega
                have e5 : x.2 ≠ 0 := by omega
                have e6 : (a / 10).tmod x.2 = a / 10 % x.2 := Int.tmod_eq_emod_of_nonneg x9
                go_wp2_with fail
                go_meet
                exact ⟨by show Box _ _ _; rw [HIN.out]; exact boxI_m (boxI_b HB3.out), grown_set (grown_set hG3.out)⟩
            · go_wp2_with fail
              go_meet
              exact ⟨by show Box _ _ _; rw [insF_5]; exact boxI_a HBG.out, grown_set (grown_refl w12 (some g))⟩
            · go_wp2_with fail
              go_meet
              exact ⟨by show Box _ _ _; rw [insF_6]; exact boxI_b (boxI_a HBG.out), grown_set (grown_set (grown_refl w12 (some g)))⟩
            · go_wp2_with fail
              go_meet
              exact ⟨by show Box _ _ _; rw [insF_7]; exact boxI_b (boxI_a HBG.out), grown_set (grown_set (grown_refl w12 (some g)))⟩
            · rcases Nat.eq_zero_or_pos gn with hg0 | hgp
              · subst hg0
                go_wp2_with fail
                go_meet
                exact ⟨by show Box _ _ _; rw [insF_80 a b y HGN.out]; exact boxI_all HBG.out, grown_set (grown_set (grown_set (grown_set (grown_refl w12 (some g)))))⟩
              · obtain ⟨m, hm0⟩ := Int.eq_ofNat_of_zero_le (show 0 ≤ a % (gn : Int) from Int.emod_nonneg _ (by omega))
                have hmn : m < gn := by have := Int.emod_lt_of_pos a (show (0 : Int) < (gn : Int) by omega); omega
                obtain ⟨x, hx⟩ : ∃ x, rg[m]? = some x := ⟨_, List.getElem?_eq_getElem (by rw [HGN.out]; exact hmn)⟩
                have e0 : ((gn : Int) == 0) = false := by simp; omega
                have e1 : (gn : Int) ≠ 0 := by omega
                have e2 : a.tmod (gn : Int) = (m : Int) := (Int.tmod_eq_emod_of_nonneg ha1).trans hm0
                have HIN : Hid (insF rg 8 a b y = ⟨8, m, b % 4, 0⟩) := insF_8 HGN.out hgp hm0
                clear hx
                go_wp2_with fail
                go_meet
                exact ⟨by show Box _ _ _; rw [HIN.out]; exact boxI_b (boxI_a HBG.out), grown_set (grown_set (grown_refl w12 (some g)))⟩
            · go_wp2_with fail
              go_meet
              exact ⟨by show Box _ _ _; rw [insF_9]; exact boxI_a HBG.out, grown_set (grown_refl w12 (some g))⟩
            · go_wp2_with fail
              go_meet
              exact ⟨by show Box _ _ _; rw [insF_10]; exact boxI_a HBG.out, grown_set (grown_refl w12 (some g))⟩
            · go_wp2_with fail
              go_meet
              exact ⟨by show Box _ _ _; rw [insF_11]; exact boxI_b (boxI_a HBG.out), grown_set (grown_set (grown_refl w12 (some g)))⟩
          case rest =>
            obtain ⟨HBI, HGI⟩ := hcut
            obtain ⟨ii, hii⟩ : ∃ x, insF rg op a b y = x := ⟨_, rfl⟩
            rw [hii] at HBI HIK HOKI
            clear hii
            have hwc : Below wr.heap.size wr wc := HW12.out.grown HGI.out HW12.out.size (fun j e => by injection e with e; have := HB9.out.size; have := HG.out; omega)
            have hB := HB.out.keep hwc
            have hX := HX.out.grow hwc
            have hO := HO.out.grow hwc
            have hPc := PN.out.go _ _ HPP.out hwc
            have y9 : wc.cell? ⟨q, 9, none⟩ = some X := hB.2.1 9
            have ha := (Below.refl wc.heap.size wc).alloc (Nat.le_refl _) (.cells ii.cells.toArray 50)
            have HXA := Lib.hid (hX.grow ha)
            have HOA := Lib.hid (hO.grow ha)
            have HBA := Lib.hid (hB.keep ha)
            have HPA := Lib.hid (PN.out.go _ _ hPc ha)
            have HSA : Hid (InsAt (wc.alloc (.cells ii.cells.toArray 50)) (some ⟨wc.heap.size, 0, none⟩) [ii]) := by
              obtain ⟨A1, c1, e1, -, h1⟩ := (OwnIR.single (w := wc) HOKI.out).form
              injection e1 with e1
              rw [e1]; exact h1
            have hlx : (codeK c0 c1 c2 c3 rg os fs k).length + 1 ≤ 100000000 := by rw [codeK_length]; omega
            have hbx : B2 ≤ (wc.alloc (.cells ii.cells.toArray 50)).heap.size := by have := hwc.size; have := ha.size; omega
            have HKL : Hid ((codeK c0 c1 c2 c3 rg os fs k).length = k) := codeK_length ..
            have HKS : Hid (codeK c0 c1 c2 c3 rg os fs (k + 1) = codeK c0 c1 c2 c3 rg os fs k ++ [ii]) := by show _ = _; rw [codeK_succ, HIK.out]
            clear hwc hB hX hO hPc ha
            go_upto_region 34 with fail
            go_wp2_with (first
              | ((with_reducible show wpList _ _ _ (Oper.mk (some 162) (.load _ _) _ _ _ _ :: _) _ _); refine ld_ins HBI.out rfl _ rfl rfl ?_)
              | ((with_reducible show wpList _ _ _ (Oper.mk (some 163) _ _ _ _ _ :: _) _ _); refine bld_ins1 (i := ii) rfl _ rfl rfl ?_)
              | ((with_reducible show wpList _ _ _ (Oper.mk (some 164) _ _ _ _ _ :: _) _ _); refine app_ins (wc.alloc (.cells ii.cells.toArray 50)) rfl _ _ rfl B2 (m := [ii]) rfl rfl HXA.out HSA.out rfl hlx hbx ?_; intro v3 w3 ho3 hb3; have hB3 := Box.block HBA.out (hb3.block q HQB.out) hb3.size; have y9 := hB3.2.1 9; have tf9 := hB3.2.2; have tl9 := hB3.1; obtain ⟨A3, c3x, e3, -, -⟩ := ho3.form; rw [List.length_append, HKL.out] at e3; subst e3))
            go_roundw
            case rel =>
              have hgs := grown_set (k := 9) (u := .slice A3 (k + 1) c3x) (grown_refl w3 (some q))
              have hq3 := HQB.out
              refine ⟨k + 1, _, rfl, by omega, by rw [HON.out]; omega, hB3.set (k := 9) (by show 9 < 10; omega), ?_, ?_, ?_, ?_⟩
              · exact Lib.hid ⟨own_store (own_und HOA.out.1 hb3 HVB.out) (by omega), HOA.out.2⟩
              · show OwnIR _ _ _ _
                rw [HKS.out]
                exact ho3.store (by omega)
              · exact PN.out.gr _ _ q (PN.out.gl _ _ HPA.out (hb3.mono (by omega))) hgs (by omega)
              · exact Nat.le_trans hbx (Nat.le_trans hb3.size hgs.size)
            case measure => simp [intOf]; omega
        · have hm3 : k = min os.length most := by rw [HON.out]; omega
          rw [hm3] at HX
          by_cases hk : k < on
          · have x2 : (k : Int) < (on : Int) := by omega
            have x3 : ¬ (k : Int) < (most : Int) := by omega
            have x4 : decide ((k : Int) < (most : Int)) = false := by simp; omega
            clear hm3
            go_wp2_with fail
            go_meet
            exact ⟨X, HB, HO, HX, HPP, hB2w⟩
          · have x2 : ¬ (k : Int) < (on : Int) := by omega
            clear hm3
            go_wp2_with fail
            go_meet
            exact ⟨X, HB, HO, HX, HPP, hB2w⟩
    case rest =>
      obtain ⟨X, HB, HO, HX, HPP, hB2w⟩ := hcut
      have y9 : wc.cell? ⟨q, 9, none⟩ = some X := HB.out.2.1 9
      have ha := (Below.refl wc.heap.size wc).alloc (Nat.le_refl _) (.cells (⟨0, 0, 0, 0⟩ : Ins).cells.toArray 50)
      have HXA := Lib.hid (HX.out.grow ha)
      have HOA := Lib.hid (HO.out.grow ha)
      have HBA := Lib.hid (HB.out.keep ha)
      have HPA := Lib.hid (PN.out.go _ _ HPP.out ha)
      have HSA : Hid (InsAt (wc.alloc (.cells (⟨0, 0, 0, 0⟩ : Ins).cells.toArray 50)) (some ⟨wc.heap.size, 0, none⟩) [⟨0, 0, 0, 0⟩]) := by
        obtain ⟨A1, c1, e1, -, h1⟩ := (OwnIR.single (w := wc) (i := ⟨0, 0, 0, 0⟩) (by unfold Ins.ok I64; decide)).form
        injection e1 with e1
        rw [e1]; exact h1
      obtain ⟨cm, hcm⟩ : ∃ n, min os.length most = n := ⟨_, rfl⟩
      rw [hcm] at HXA HPR
      obtain ⟨cl, hcl⟩ : ∃ l, codeK c0 c1 c2 c3 rg os fs cm = l := ⟨_, rfl⟩
      have hcl2 : cl.length = cm := by rw [← hcl, codeK_length]
      rw [hcl] at HXA HPR
      have hlx : cl.length + 1 ≤ 100000000 := by omega
      have hbx : B2 ≤ (wc.alloc (.cells (⟨0, 0, 0, 0⟩ : Ins).cells.toArray 50)).heap.size := by have := ha.size; omega
      have HQL := Lib.hid hqb
      obtain ⟨nn, hnn⟩ : ∃ n, (cl ++ [⟨0, 0, 0, 0⟩] : List Ins).length = n := ⟨_, rfl⟩
      have HNN := Lib.hid hnn
      clear ha hcm hcl hcl2 hnn
      go_upto_region 36 with (first
        | ((with_reducible show wpList _ _ _ (Oper.mk (some 169) _ _ _ _ _ :: _) _ _); refine bld_ins1 (i := ⟨0, 0, 0, 0⟩) rfl _ rfl rfl ?_)
        | ((with_reducible show wpList _ _ _ (Oper.mk (some 170) _ _ _ _ _ :: _) _ _); refine app_ins (wc.alloc (.cells (⟨0, 0, 0, 0⟩ : Ins).cells.toArray 50)) rfl _ _ rfl B2 (m := [⟨0, 0, 0, 0⟩]) rfl rfl HXA.out HSA.out rfl hlx hbx ?_; intro v3 w3 ho3 hb3; have hB3 := Box.block HBA.out (hb3.block q HQB.out) hb3.size; have y9 := hB3.2.1 9; have tf9 := hB3.2.2; have tl9 := hB3.1; obtain ⟨A3, c3x, e3, -, -⟩ := ho3.form; rw [HNN.out] at e3; subst e3))
      have hq3 := HQB.out
      have hgs := grown_set (k := 9) (u := .slice A3 nn c3x) (grown_refl w3 (some q))
      have HB4 : Hid (Box (w3.setCell ⟨q, 9, none⟩ (.slice A3 nn c3x)) q (prgL d0 d1 d2 d3 c0 c1 c2 c3 (.slice gA gn gc) (.slice A3 nn c3x))) := hB3.set (k := 9) (by show 9 < 10; omega)
      have HO4 : Hid (OwnRg (q + 1) (w3.setCell ⟨q, 9, none⟩ (.slice A3 nn c3x)) (.slice gA gn gc) rg) := ⟨own_store (own_und HOA.out.1 hb3 HVB.out) (by omega), HOA.out.2⟩
      have HX4 : Hid (OwnIR B2 (w3.setCell ⟨q, 9, none⟩ (.slice A3 nn c3x)) (.slice A3 nn c3x) (cl ++ [⟨0, 0, 0, 0⟩])) := ho3.store (by omega)
      have HP4 := Lib.hid (PN.out.gr _ _ q (PN.out.gl _ _ HPA.out (hb3.mono (by omega))) hgs hqb)
      generalize w3.setCell ⟨q, 9, none⟩ (.slice A3 nn c3x) = w4 at HB4 HO4 HX4 HP4 ⊢
      have HR4 := Lib.hid (PN.out.res _ HP4.out)
      clear hgs hB3 y9 tf9 tl9 ho3 hb3
      go_wp2_with (first
        | ((with_reducible show wpList _ _ _ (Oper.mk (some 172) (.load _ _) _ _ _ _ :: _) _ _); refine wp_ld rfl _ _ rfl q 0 rfl HB4.out (prgL d0 d1 d2 d3 c0 c1 c2 c3 (.slice gA gn gc) (.slice A3 nn c3x)) (fun j v hj => by rw [Nat.zero_add]; exact hj) _ Tryd.underlying39 rfl size_prg ?_)
        | ((with_reducible show wpList _ _ _ (Oper.mk none (.store 39 _ _) _ _ _ _ :: _) _ _); refine wp_st rfl _ _ _ rfl (w.heap.size + 1) 0 (prgL d0 d1 d2 d3 c0 c1 c2 c3 (.slice gA gn gc) (.slice A3 nn c3x)) rfl rfl size_prg rfl HR4.out (by show 0 + 10 ≤ 10; omega) rfl ?_; intro w5 hb5 hg5))
      have hb5 : Box w5 (w.heap.size + 1) (prgL d0 d1 d2 d3 c0 c1 c2 c3 (.slice gA gn gc) (.slice A3 nn c3x)) := hb5
      obtain ⟨dsc, hd1, hd2⟩ := row_prg
      refine bodyPost_ret (resC rfl _ _ w5 (g := w.heap.size + 1) (v := .agg (prgL d0 d1 d2 d3 c0 c1 c2 c3 (.slice gA gn gc) (.slice A3 nn c3x)).toArray) rfl (res_box _ hb5 dsc hd1 hd2 size_prg)) rfl ?_
      have hO5 : OwnRg (q + 1) w5 (.slice gA gn gc) rg := ⟨own_sets HO4.out.1 hg5 (by omega), HO4.out.2⟩
      have hX5 : OwnIR B2 w5 (.slice A3 nn c3x) (cl ++ [⟨0, 0, 0, 0⟩]) := ⟨own_sets HX4.out.1 hg5 (by omega), HX4.out.2⟩
      obtain ⟨gA2, gc2, e2, -, hRA⟩ := hO5.form
      obtain ⟨A4, c4, e4, hCC, hCA⟩ := hX5.form
      injection e2 with e21 e22 e23
      injection e4 with e41 e42 e43
      rw [← e21] at hRA
      rw [← e41] at hCA
      refine ⟨⟨prgF dn cn rs os fs most, gA, A3, gc, c3x⟩, rfl, ?_, ?_, grown_to (PN.out.old _ HP4.out) hg5 (by omega), by show (prgF dn cn rs os fs most).code.length ≤ c3x; rw [HPR.out, e43]; exact hCC⟩
      · show _ = Ending.returned (PrgA.v _)
        unfold PrgA.v PrgA.lst
        rw [HPR.out]
        show _ = Ending.returned (.agg (prgL d0 d1 d2 d3 c0 c1 c2 c3 (.slice gA rg.length gc) (.slice A3 (cl ++ [(⟨0, 0, 0, 0⟩ : Ins)]).length c3x)).toArray)
        rw [HGN.out, HNN.out]
      · unfold PrgAt
        rw [HPR.out]
        exact ⟨hRA, hCA⟩
end Go.Proofs.YtpdpcgeeneajjaaDoor
