/- Operations of the simulator: those without calls. Printed by gen_s18.py. -/
import Derived.Test.YtdiflpbioohddaaDoortS15toS17
import Derived.Test.YtdiflpbioohddaaDoortS20
import Derived.Test.YtdiflpbioohddaaDoortE13toE16
set_option linter.unusedVariables false
set_option linter.unusedSimpArgs false
namespace Go.Proofs.YtdiflpbioohddaaDoor
open Go.RowKit
set_option maxRecDepth 100000 in
set_option maxHeartbeats 4000000 in
theorem op_0 {z : Outs} {b : Nat} {w0 w : World} {g ga ma gc mc : Nat} {hv : Value} {u : PrgA} {cy st x : Int} {s : Smp} {a bb imm : Int} (h : OpIn z b w0 w g ga ma gc mc hv u cy st x s ⟨0, a, bb, imm⟩) :
  Calls Tryd.prog 87 #[.pointer (some ⟨g, 0, none⟩), .agg #[.int .i64 0, .int .i64 a, .int .i64 bb, .int .i64 imm]] w (RetOp z b w0 w g ga ma gc mc hv u cy st x (stepM u.d x s ⟨0, a, bb, imm⟩)) := by
 obtain ⟨f1, f2, f3, f4, f5⟩ := fld_reg (suit_formed h.suit)
 have hbw : b ≤ w.heap.size := by have := h.bel.size; have := h.old; omega
 have HH := Lib.hid h
 simp only at f1 f2 f3 f4 f5
 clear h f1 f2 f3 f4 f5
 go_enter Tryd.func87, Tryd.ntmps87
 go_wp2_with fail
 go_end0
 exact RetOp.mk (HH.out.run.grow ((Below.refl w.heap.size w).alloc (Nat.le_refl _) _)) (HH.out.bel.alloc hbw _)
set_option maxRecDepth 100000 in
set_option maxHeartbeats 4000000 in
theorem op_1 {z : Outs} {b : Nat} {w0 w : World} {g ga ma gc mc : Nat} {hv : Value} {u : PrgA} {cy st x : Int} {s : Smp} {a bb imm : Int} (h : OpIn z b w0 w g ga ma gc mc hv u cy st x s ⟨1, a, bb, imm⟩) :
  Calls Tryd.prog 88 #[.pointer (some ⟨g, 0, none⟩), .agg #[.int .i64 1, .int .i64 a, .int .i64 bb, .int .i64 imm]] w (RetOp z b w0 w g ga ma gc mc hv u cy st x (stepM u.d x s ⟨1, a, bb, imm⟩)) := by
 obtain ⟨f1, f2, f3, f4, f5⟩ := fld_reg (suit_formed h.suit)
 have hbw : b ≤ w.heap.size := by have := h.bel.size; have := h.old; omega
 have HH := Lib.hid h
 simp only at f1 f2 f3 f4 f5
 clear h f1 f2 f3 f4 f5
 go_enter Tryd.func88, Tryd.ntmps88
 go_upto_region 1 with fail
 obtain ⟨bi, hb0⟩ := entryJ w ⟨1, a, bb, imm⟩ _ rfl
 change Code.wp _ _ _ _ (w.alloc (.cells (Ins.cells ⟨1, a, bb, imm⟩).toArray 109))
 generalize (w.alloc (.cells (Ins.cells ⟨1, a, bb, imm⟩).toArray 109)) = W0 at bi hb0 ⊢
 have HRUN := Lib.hid (HH.out.run.grow hb0)
 have HBI := Lib.hid bi
 have HBW := Lib.hid (HH.out.bel.trans (hb0.mono hbw))
 clear bi hb0
 generalize w.heap.size = gi at HBI ⊢
 have x15 : W0.cell? ⟨g, 15, none⟩ = some (.int .i64 s.sum) := HRUN.out.in rfl
 have f15 := HRUN.out.free 15
 have HR6 := Lib.hid (HRUN.out.put (k := 15) (v := .int .i64 0) (s' := { s with sum := 0 }) (cy' := cy) (st' := st) (x' := x) (by decide) rfl rfl rfl rfl)
 have HB6 := Lib.hid (below_set (k := 15) (u := .int .i64 0) HBW.out HRUN.out.hb)
 go_wp2_with fail
 go_end0
 exact RetOp.mk HR6.out HB6.out
set_option maxRecDepth 100000 in
set_option maxHeartbeats 4000000 in
theorem op_2 {z : Outs} {b : Nat} {w0 w : World} {g ga ma gc mc : Nat} {hv : Value} {u : PrgA} {cy st x : Int} {s : Smp} {a bb imm : Int} (h : OpIn z b w0 w g ga ma gc mc hv u cy st x s ⟨2, a, bb, imm⟩) :
  Calls Tryd.prog 89 #[.pointer (some ⟨g, 0, none⟩), .agg #[.int .i64 2, .int .i64 a, .int .i64 bb, .int .i64 imm]] w (RetOp z b w0 w g ga ma gc mc hv u cy st x (stepM u.d x s ⟨2, a, bb, imm⟩)) := by
 obtain ⟨f1, f2, f3, f4, f5⟩ := fld_reg (suit_formed h.suit)
 have hbw : b ≤ w.heap.size := by have := h.bel.size; have := h.old; omega
 have HH := Lib.hid h
 simp only at f1 f2 f3 f4 f5
 obtain ⟨a0, a1⟩ := f1 (by simp)
 obtain ⟨ka, rfl⟩ := Int.eq_ofNat_of_zero_le a0
 have ka8 : ka < 8 := by omega
 obtain ⟨rv, hrv⟩ : ∃ v, s.regs.getD ka 0 = v := ⟨_, rfl⟩
 have rvb := fitD_bound (wordD_at h.ok.st.rw (k := ka) (by rw [h.ok.st.rl]; exact ka8))
 rw [hrv] at rvb
 have Hrv := Lib.hid hrv
 clear hrv
 have hip := (formed_parts (suit_formed h.suit)).2.2.2
 simp only at hip
 obtain ⟨p, hpp⟩ : ∃ p, rv * imm = p := ⟨_, rfl⟩
 have hpb := mul_bound (x := rv) (y := imm) (B := 8388608) (C := 8388608) ⟨by omega, by omega⟩ hip
 rw [hpp] at hpb
 have p1 : -9223372036854775808 ≤ p := by omega
 have p2 : p ≤ 9223372036854775807 := by omega
 obtain ⟨q, hq⟩ : ∃ q, IntKind.i64.wrap (s.sum + p) = q := ⟨_, rfl⟩
 have hq2 : wrap64 (s.sum + p) = q := (IntWalk.i64_left _).symm.trans hq
 have wp : IntKind.i64.wrap (rv * imm) = p := by rw [hpp]; exact IntWalk.i64_in _ (by omega)
 have HQ := Lib.hid hq2
 have HPP := Lib.hid hpp
 clear hip hpb
 have k0 : (0 : Int) ≤ (ka : Int) := by omega
 have k1 : (ka : Int) < 8 := by omega
 clear h f1 f2 f3 f4 f5
 go_enter Tryd.func89, Tryd.ntmps89
 go_upto_region 1 with fail
 obtain ⟨bi, hb0⟩ := entryJ w ⟨2, (ka : Int), bb, imm⟩ _ rfl
 change Code.wp _ _ _ _ (w.alloc (.cells (Ins.cells ⟨2, (ka : Int), bb, imm⟩).toArray 109))
 generalize (w.alloc (.cells (Ins.cells ⟨2, (ka : Int), bb, imm⟩).toArray 109)) = W0 at bi hb0 ⊢
 have HRUN := Lib.hid (HH.out.run.grow hb0)
 have HBI := Lib.hid bi
 have HBW := Lib.hid (HH.out.bel.trans (hb0.mono hbw))
 clear bi hb0
 generalize w.heap.size = gi at HBI ⊢
 refine wp_region_grow8 (fun x => Nat.blt x 19) (fun _ => false) (fun w2 => Below W0.heap.size W0 w2) (fun a b => Below a.heap.size a b) (dF 0 [.v (.pointer (some ⟨g, 0, none⟩)), .v (.pointer (some ⟨g, 0, none⟩)), .v (.pointer (some ⟨g, 15, none⟩)), .v (.int .i64 s.sum), .v (.pointer (some ⟨g, 0, none⟩)), .v (.pointer (some ⟨g, 0, none⟩)), .v (.pointer (some ⟨g, 10, none⟩)), .v (.pointer (some ⟨g, 10, none⟩)), .v (.slice (some ⟨ga, 0, none⟩) 8 gc), .v (.pointer (some ⟨gi, 1, none⟩)), .v (.int .i64 (ka : Int)), .v (.pointer (some ⟨ga, ka, none⟩)), .v (.int .i64 rv), .v (.pointer (some ⟨gi, 3, none⟩)), .v (.int .i64 imm), .v (.int .i64 p), .v (.int .i64 q), .v (.pointer (some ⟨g, 0, none⟩)), .v (.pointer (some ⟨g, 15, none⟩))]) (by kernel_rfl) (by kernel_rfl) (Below.drew (Below.refl _ _)) (fun a b h1 h2 => ⟨below_then h1 h2, fun i _ v => dF_keep h2 i v⟩) (fun w _ => Below.refl _ _) ?_ (fun j o _ _ h => by cases h) ?_
 ·refine ⟨?_, ?_, ?_, ?_, ?_, ?_, ?_, ?_, ?_, ?_, ?_, ?_, ?_, ?_, ?_, ?_, ?_, ?_, ?_, trivial⟩
  all_goals
   intro vs w5 hp hF
   have r5 := HRUN.out.grow hp
   have b5 := HBI.out.keep hp
   have x15 : w5.cell? ⟨g, 15, none⟩ = some (.int .i64 s.sum) := r5.in rfl
   have x10 : w5.cell? ⟨g, 10, none⟩ = some (.slice (some ⟨ga, 0, none⟩) 8 gc) := r5.in rfl
   obtain ⟨z0, z1, z2, z3⟩ := b5.c4
   have y1 : w5.cell? ⟨ga, ka, none⟩ = some (.int .i64 rv) := by rw [← Hrv.out]; exact own_getD r5.regs (by rw [HH.out.ok.st.rl]; exact ka8)
   clear r5 b5 hp
   simp [depsB, Region.binds, dF] at hF
   simp [stL, depsB, Region.binds, Act.put, hF]
  all_goals (go_wp2_with fail; exact ⟨rfl, Below.refl _ _⟩)
 intro vs w5 hp hF
 have eT := hF 18 (by decide) rfl
 have eV := hF 16 (by decide) rfl
 replace eT : vs 18 = .pointer (some ⟨g, 15, none⟩) := eT
 replace eV : vs 16 = .int .i64 q := eV
 show wpList Tryd.prog _ _ [_] _ _
 simp [stL, Act.put, eT, eV]
 clear hF eT eV
 have r5 := HRUN.out.grow hp
 have x15 : w5.cell? ⟨g, 15, none⟩ = some (.int .i64 s.sum) := r5.in rfl
 have f15 := r5.free 15
 have HR6 := Lib.hid (r5.put (k := 15) (v := .int .i64 q) (s' := stepM u.d x s ⟨2, (ka : Int), bb, imm⟩) (cy' := cy) (st' := st) (x' := x) (by decide) (by have : (stepM u.d x s ⟨2, (ka : Int), bb, imm⟩).sum = q := (show wrap64 (s.sum + s.regs.getD ka 0 * imm) = q by rw [Hrv.out, HPP.out]; exact HQ.out); unfold runL; rw [this]; rfl) rfl rfl rfl)
 have HB6 := Lib.hid (below_set (k := 15) (u := .int .i64 q) (HBW.out.trans (hp.mono (by have := HBW.out.size; have := HH.out.old; omega))) HRUN.out.hb)
 clear r5 hp
 generalize vs 0 = x0
 generalize vs 1 = x1
 generalize vs 2 = x2
 generalize vs 3 = x3
 generalize vs 4 = x4
 generalize vs 5 = x5
 generalize vs 6 = x6
 generalize vs 7 = x7
 generalize vs 8 = x8
 generalize vs 9 = x9
 generalize vs 10 = x10
 generalize vs 11 = x11
 generalize vs 12 = x12
 generalize vs 13 = x13
 generalize vs 14 = x14
 generalize vs 15 = x15
 generalize vs 17 = x17
 go_wp2_with fail
 go_end0
 exact RetOp.mk HR6.out HB6.out
set_option maxRecDepth 100000 in
set_option maxHeartbeats 4000000 in
theorem op_3 {z : Outs} {b : Nat} {w0 w : World} {g ga ma gc mc : Nat} {hv : Value} {u : PrgA} {cy st x : Int} {s : Smp} {a bb imm : Int} (h : OpIn z b w0 w g ga ma gc mc hv u cy st x s ⟨3, a, bb, imm⟩) :
  Calls Tryd.prog 90 #[.pointer (some ⟨g, 0, none⟩), .agg #[.int .i64 3, .int .i64 a, .int .i64 bb, .int .i64 imm]] w (RetOp z b w0 w g ga ma gc mc hv u cy st x (stepM u.d x s ⟨3, a, bb, imm⟩)) := by
 obtain ⟨f1, f2, f3, f4, f5⟩ := fld_reg (suit_formed h.suit)
 have hbw : b ≤ w.heap.size := by have := h.bel.size; have := h.old; omega
 have HH := Lib.hid h
 simp only at f1 f2 f3 f4 f5
 obtain ⟨a0, a1⟩ := f4 (by simp)
 obtain ⟨ka, rfl⟩ := Int.eq_ofNat_of_zero_le a0
 have ka8 : ka < 128 := by omega
 obtain ⟨rv, hrv⟩ : ∃ v, s.mem.getD ka 0 = v := ⟨_, rfl⟩
 have rvb := fitD_bound (wordD_at h.ok.st.mw (k := ka) (by rw [h.ok.st.ml]; exact ka8))
 rw [hrv] at rvb
 have Hrv := Lib.hid hrv
 clear hrv
 have hip := (formed_parts (suit_formed h.suit)).2.2.2
 simp only at hip
 obtain ⟨p, hpp⟩ : ∃ p, rv * imm = p := ⟨_, rfl⟩
 have hpb := mul_bound (x := rv) (y := imm) (B := 8388608) (C := 8388608) ⟨by omega, by omega⟩ hip
 rw [hpp] at hpb
 have p1 : -9223372036854775808 ≤ p := by omega
 have p2 : p ≤ 9223372036854775807 := by omega
 obtain ⟨q, hq⟩ : ∃ q, IntKind.i64.wrap (s.sum + p) = q := ⟨_, rfl⟩
 have hq2 : wrap64 (s.sum + p) = q := (IntWalk.i64_left _).symm.trans hq
 have wp : IntKind.i64.wrap (rv * imm) = p := by rw [hpp]; exact IntWalk.i64_in _ (by omega)
 have HQ := Lib.hid hq2
 have HPP := Lib.hid hpp
 clear hip hpb
 have k0 : (0 : Int) ≤ (ka : Int) := by omega
 have k1 : (ka : Int) < 128 := by omega
 clear h f1 f2 f3 f4 f5
 go_enter Tryd.func90, Tryd.ntmps90
 go_upto_region 1 with fail
 obtain ⟨bi, hb0⟩ := entryJ w ⟨3, (ka : Int), bb, imm⟩ _ rfl
 change Code.wp _ _ _ _ (w.alloc (.cells (Ins.cells ⟨3, (ka : Int), bb, imm⟩).toArray 109))
 generalize (w.alloc (.cells (Ins.cells ⟨3, (ka : Int), bb, imm⟩).toArray 109)) = W0 at bi hb0 ⊢
 have HRUN := Lib.hid (HH.out.run.grow hb0)
 have HBI := Lib.hid bi
 have HBW := Lib.hid (HH.out.bel.trans (hb0.mono hbw))
 clear bi hb0
 generalize w.heap.size = gi at HBI ⊢
 refine wp_region_grow8 (fun x => Nat.blt x 19) (fun _ => false) (fun w2 => Below W0.heap.size W0 w2) (fun a b => Below a.heap.size a b) (dF 0 [.v (.pointer (some ⟨g, 0, none⟩)), .v (.pointer (some ⟨g, 0, none⟩)), .v (.pointer (some ⟨g, 15, none⟩)), .v (.int .i64 s.sum), .v (.pointer (some ⟨g, 0, none⟩)), .v (.pointer (some ⟨g, 0, none⟩)), .v (.pointer (some ⟨g, 10, none⟩)), .v (.pointer (some ⟨g, 11, none⟩)), .v (.slice (some ⟨ma, 0, none⟩) 128 mc), .v (.pointer (some ⟨gi, 1, none⟩)), .v (.int .i64 (ka : Int)), .v (.pointer (some ⟨ma, ka, none⟩)), .v (.int .i64 rv), .v (.pointer (some ⟨gi, 3, none⟩)), .v (.int .i64 imm), .v (.int .i64 p), .v (.int .i64 q), .v (.pointer (some ⟨g, 0, none⟩)), .v (.pointer (some ⟨g, 15, none⟩))]) (by kernel_rfl) (by kernel_rfl) (Below.drew (Below.refl _ _)) (fun a b h1 h2 => ⟨below_then h1 h2, fun i _ v => dF_keep h2 i v⟩) (fun w _ => Below.refl _ _) ?_ (fun j o _ _ h => by cases h) ?_
 ·refine ⟨?_, ?_, ?_, ?_, ?_, ?_, ?_, ?_, ?_, ?_, ?_, ?_, ?_, ?_, ?_, ?_, ?_, ?_, ?_, trivial⟩
  all_goals
   intro vs w5 hp hF
   have r5 := HRUN.out.grow hp
   have b5 := HBI.out.keep hp
   have x15 : w5.cell? ⟨g, 15, none⟩ = some (.int .i64 s.sum) := r5.in rfl
   have x11 : w5.cell? ⟨g, 11, none⟩ = some (.slice (some ⟨ma, 0, none⟩) 128 mc) := r5.in rfl
   obtain ⟨z0, z1, z2, z3⟩ := b5.c4
   have y1 : w5.cell? ⟨ma, ka, none⟩ = some (.int .i64 rv) := by rw [← Hrv.out]; exact own_getD r5.mem (by rw [HH.out.ok.st.ml]; exact ka8)
   clear r5 b5 hp
   simp [depsB, Region.binds, dF] at hF
   simp [stL, depsB, Region.binds, Act.put, hF]
  all_goals (go_wp2_with fail; exact ⟨rfl, Below.refl _ _⟩)
 intro vs w5 hp hF
 have eT := hF 18 (by decide) rfl
 have eV := hF 16 (by decide) rfl
 replace eT : vs 18 = .pointer (some ⟨g, 15, none⟩) := eT
 replace eV : vs 16 = .int .i64 q := eV
 show wpList Tryd.prog _ _ [_] _ _
 simp [stL, Act.put, eT, eV]
 clear hF eT eV
 have r5 := HRUN.out.grow hp
 have x15 : w5.cell? ⟨g, 15, none⟩ = some (.int .i64 s.sum) := r5.in rfl
 have f15 := r5.free 15
 have HR6 := Lib.hid (r5.put (k := 15) (v := .int .i64 q) (s' := stepM u.d x s ⟨3, (ka : Int), bb, imm⟩) (cy' := cy) (st' := st) (x' := x) (by decide) (by have : (stepM u.d x s ⟨3, (ka : Int), bb, imm⟩).sum = q := (show wrap64 (s.sum + s.mem.getD ka 0 * imm) = q by rw [Hrv.out, HPP.out]; exact HQ.out); unfold runL; rw [this]; rfl) rfl rfl rfl)
 have HB6 := Lib.hid (below_set (k := 15) (u := .int .i64 q) (HBW.out.trans (hp.mono (by have := HBW.out.size; have := HH.out.old; omega))) HRUN.out.hb)
 clear r5 hp
 generalize vs 0 = x0
 generalize vs 1 = x1
 generalize vs 2 = x2
 generalize vs 3 = x3
 generalize vs 4 = x4
 generalize vs 5 = x5
 generalize vs 6 = x6
 generalize vs 7 = x7
 generalize vs 8 = x8
 generalize vs 9 = x9
 generalize vs 10 = x10
 generalize vs 11 = x11
 generalize vs 12 = x12
 generalize vs 13 = x13
 generalize vs 14 = x14
 generalize vs 15 = x15
 generalize vs 17 = x17
 go_wp2_with fail
 go_end0
 exact RetOp.mk HR6.out HB6.out
set_option maxRecDepth 100000 in
set_option maxHeartbeats 4000000 in
theorem op_6 {z : Outs} {b : Nat} {w0 w : World} {g ga ma gc mc : Nat} {hv : Value} {u : PrgA} {cy st x : Int} {s : Smp} {a bb imm : Int} (h : OpIn z b w0 w g ga ma gc mc hv u cy st x s ⟨6, a, bb, imm⟩) :
  Calls Tryd.prog 94 #[.pointer (some ⟨g, 0, none⟩), .agg #[.int .i64 6, .int .i64 a, .int .i64 bb, .int .i64 imm]] w (RetOp z b w0 w g ga ma gc mc hv u cy st x (stepM u.d x s ⟨6, a, bb, imm⟩)) := by
 obtain ⟨f1, f2, f3, f4, f5⟩ := fld_reg (suit_formed h.suit)
 have hbw : b ≤ w.heap.size := by have := h.bel.size; have := h.old; omega
 have HH := Lib.hid h
 simp only at f1 f2 f3 f4 f5
 obtain ⟨a0, a1⟩ := f1 (by simp)
 obtain ⟨ka, rfl⟩ := Int.eq_ofNat_of_zero_le a0
 have ka8 : ka < 8 := by omega
 obtain ⟨bb0, bb1⟩ := f5 (by simp)
 obtain ⟨kb, rfl⟩ := Int.eq_ofNat_of_zero_le bb0
 have kb8 : kb < 128 := by omega
 obtain ⟨rv, hrv⟩ : ∃ v, s.mem.getD kb 0 = v := ⟨_, rfl⟩
 have rvb := fitD_bound (wordD_at h.ok.st.mw (k := kb) (by rw [h.ok.st.ml]; exact kb8))
 rw [hrv] at rvb
 have Hrv := Lib.hid hrv
 clear hrv
 have k0 : (0 : Int) ≤ (ka : Int) := by omega
 have k1 : (ka : Int) < 8 := by omega
 have k2 : (0 : Int) ≤ (kb : Int) := by omega
 have k3 : (kb : Int) < 128 := by omega
 clear h f1 f2 f3 f4 f5
 go_enter Tryd.func94, Tryd.ntmps94
 go_upto_region 1 with fail
 obtain ⟨bi, hb0⟩ := entryJ w ⟨6, (ka : Int), (kb : Int), imm⟩ _ rfl
 change Code.wp _ _ _ _ (w.alloc (.cells (Ins.cells ⟨6, (ka : Int), (kb : Int), imm⟩).toArray 109))
 generalize (w.alloc (.cells (Ins.cells ⟨6, (ka : Int), (kb : Int), imm⟩).toArray 109)) = W0 at bi hb0 ⊢
 have HRUN := Lib.hid (HH.out.run.grow hb0)
 have HBI := Lib.hid bi
 have HBW := Lib.hid (HH.out.bel.trans (hb0.mono hbw))
 clear bi hb0
 generalize w.heap.size = gi at HBI ⊢
 refine wp_region_grow8 (fun x => Nat.blt x 17) (fun _ => false) (fun w2 => Below W0.heap.size W0 w2) (fun a b => Below a.heap.size a b) (dF 0 [.v (.pointer (some ⟨g, 0, none⟩)), .v (.pointer (some ⟨g, 0, none⟩)), .v (.pointer (some ⟨g, 10, none⟩)), .v (.pointer (some ⟨g, 10, none⟩)), .v (.slice (some ⟨ga, 0, none⟩) 8 gc), .v (.pointer (some ⟨gi, 1, none⟩)), .v (.int .i64 (ka : Int)), .v (.pointer (some ⟨g, 0, none⟩)), .v (.pointer (some ⟨g, 0, none⟩)), .v (.pointer (some ⟨g, 10, none⟩)), .v (.pointer (some ⟨g, 11, none⟩)), .v (.slice (some ⟨ma, 0, none⟩) 128 mc), .v (.pointer (some ⟨gi, 2, none⟩)), .v (.int .i64 (kb : Int)), .v (.pointer (some ⟨ma, kb, none⟩)), .v (.int .i64 rv), .v (.pointer (some ⟨ga, ka, none⟩))]) (by kernel_rfl) (by kernel_rfl) (Below.drew (Below.refl _ _)) (fun a b h1 h2 => ⟨below_then h1 h2, fun i _ v => dF_keep h2 i v⟩) (fun w _ => Below.refl _ _) ?_ (fun j o _ _ h => by cases h) ?_
 ·refine ⟨?_, ?_, ?_, ?_, ?_, ?_, ?_, ?_, ?_, ?_, ?_, ?_, ?_, ?_, ?_, ?_, ?_, trivial⟩
  all_goals
   intro vs w5 hp hF
   have r5 := HRUN.out.grow hp
   have b5 := HBI.out.keep hp
   have x10 : w5.cell? ⟨g, 10, none⟩ = some (.slice (some ⟨ga, 0, none⟩) 8 gc) := r5.in rfl
   have x11 : w5.cell? ⟨g, 11, none⟩ = some (.slice (some ⟨ma, 0, none⟩) 128 mc) := r5.in rfl
   obtain ⟨z0, z1, z2, z3⟩ := b5.c4
   have y1 : w5.cell? ⟨ma, kb, none⟩ = some (.int .i64 rv) := by rw [← Hrv.out]; exact own_getD r5.mem (by rw [HH.out.ok.st.ml]; exact kb8)
   clear r5 b5 hp
   simp [depsB, Region.binds, dF] at hF
   simp [stL, depsB, Region.binds, Act.put, hF]
  all_goals (go_wp2_with fail; exact ⟨rfl, Below.refl _ _⟩)
 intro vs w5 hp hF
 have eT := hF 16 (by decide) rfl
 have eV := hF 15 (by decide) rfl
 replace eT : vs 16 = .pointer (some ⟨ga, ka, none⟩) := eT
 replace eV : vs 15 = .int .i64 rv := eV
 show wpList Tryd.prog _ _ [_] _ _
 simp [stL, Act.put, eT, eV]
 clear hF eT eV
 have r5 := HRUN.out.grow hp
 have y2 : w5.cell? ⟨ga, ka, none⟩ = some (.int .i64 (s.regs.getD ka 0)) := own_getD r5.regs (by rw [HH.out.ok.st.rl]; exact ka8)
 have y3 := r5.regs.free ka
 have HR6 := Lib.hid (show RunAt z b (w5.setCell ⟨ga, ka, none⟩ (.int .i64 rv)) g ga ma gc mc hv u cy st x (stepM u.d x s ⟨6, (ka : Int), (kb : Int), imm⟩) from by have e : stepM u.d x s ⟨6, (ka : Int), (kb : Int), imm⟩ = { s with regs := s.regs.set ka rv } := (show { s with regs := s.regs.set ka (s.mem.getD kb 0) } = _ by rw [Hrv.out]); rw [e]; exact r5.reg (k := ka) (y := rv) ⟨by omega, by omega⟩)
 have HB6 := Lib.hid (below_set (k := ka) (u := .int .i64 rv) (HBW.out.trans (hp.mono (by have := HBW.out.size; have := HH.out.old; omega))) (r5.regs.block.1))
 clear r5 hp
 generalize vs 0 = x0
 generalize vs 1 = x1
 generalize vs 2 = x2
 generalize vs 3 = x3
 generalize vs 4 = x4
 generalize vs 5 = x5
 generalize vs 6 = x6
 generalize vs 7 = x7
 generalize vs 8 = x8
 generalize vs 9 = x9
 generalize vs 10 = x10
 generalize vs 11 = x11
 generalize vs 12 = x12
 generalize vs 13 = x13
 generalize vs 14 = x14
 go_wp2_with fail
 go_end0
 exact RetOp.mk HR6.out HB6.out
set_option maxRecDepth 100000 in
set_option maxHeartbeats 4000000 in
theorem op_7 {z : Outs} {b : Nat} {w0 w : World} {g ga ma gc mc : Nat} {hv : Value} {u : PrgA} {cy st x : Int} {s : Smp} {a bb imm : Int} (h : OpIn z b w0 w g ga ma gc mc hv u cy st x s ⟨7, a, bb, imm⟩) :
  Calls Tryd.prog 95 #[.pointer (some ⟨g, 0, none⟩), .agg #[.int .i64 7, .int .i64 a, .int .i64 bb, .int .i64 imm]] w (RetOp z b w0 w g ga ma gc mc hv u cy st x (stepM u.d x s ⟨7, a, bb, imm⟩)) := by
 obtain ⟨f1, f2, f3, f4, f5⟩ := fld_reg (suit_formed h.suit)
 have hbw : b ≤ w.heap.size := by have := h.bel.size; have := h.old; omega
 have HH := Lib.hid h
 simp only at f1 f2 f3 f4 f5
 obtain ⟨a0, a1⟩ := f1 (by simp)
 obtain ⟨ka, rfl⟩ := Int.eq_ofNat_of_zero_le a0
 have ka8 : ka < 8 := by omega
 obtain ⟨bb0, bb1⟩ := f5 (by simp)
 obtain ⟨kb, rfl⟩ := Int.eq_ofNat_of_zero_le bb0
 have kb8 : kb < 128 := by omega
 obtain ⟨rv, hrv⟩ : ∃ v, s.regs.getD ka 0 = v := ⟨_, rfl⟩
 have rvb := fitD_bound (wordD_at h.ok.st.rw (k := ka) (by rw [h.ok.st.rl]; exact ka8))
 rw [hrv] at rvb
 have Hrv := Lib.hid hrv
 clear hrv
 have k0 : (0 : Int) ≤ (ka : Int) := by omega
 have k1 : (ka : Int) < 8 := by omega
 have k2 : (0 : Int) ≤ (kb : Int) := by omega
 have k3 : (kb : Int) < 128 := by omega
 clear h f1 f2 f3 f4 f5
 go_enter Tryd.func95, Tryd.ntmps95
 go_upto_region 1 with fail
 obtain ⟨bi, hb0⟩ := entryJ w ⟨7, (ka : Int), (kb : Int), imm⟩ _ rfl
 change Code.wp _ _ _ _ (w.alloc (.cells (Ins.cells ⟨7, (ka : Int), (kb : Int), imm⟩).toArray 109))
 generalize (w.alloc (.cells (Ins.cells ⟨7, (ka : Int), (kb : Int), imm⟩).toArray 109)) = W0 at bi hb0 ⊢
 have HRUN := Lib.hid (HH.out.run.grow hb0)
 have HBI := Lib.hid bi
 have HBW := Lib.hid (HH.out.bel.trans (hb0.mono hbw))
 clear bi hb0
 generalize w.heap.size = gi at HBI ⊢
 refine wp_region_grow8 (fun x => Nat.blt x 17) (fun _ => false) (fun w2 => Below W0.heap.size W0 w2) (fun a b => Below a.heap.size a b) (dF 0 [.v (.pointer (some ⟨g, 0, none⟩)), .v (.pointer (some ⟨g, 0, none⟩)), .v (.pointer (some ⟨g, 10, none⟩)), .v (.pointer (some ⟨g, 11, none⟩)), .v (.slice (some ⟨ma, 0, none⟩) 128 mc), .v (.pointer (some ⟨gi, 2, none⟩)), .v (.int .i64 (kb : Int)), .v (.pointer (some ⟨g, 0, none⟩)), .v (.pointer (some ⟨g, 0, none⟩)), .v (.pointer (some ⟨g, 10, none⟩)), .v (.pointer (some ⟨g, 10, none⟩)), .v (.slice (some ⟨ga, 0, none⟩) 8 gc), .v (.pointer (some ⟨gi, 1, none⟩)), .v (.int .i64 (ka : Int)), .v (.pointer (some ⟨ga, ka, none⟩)), .v (.int .i64 rv), .v (.pointer (some ⟨ma, kb, none⟩))]) (by kernel_rfl) (by kernel_rfl) (Below.drew (Below.refl _ _)) (fun a b h1 h2 => ⟨below_then h1 h2, fun i _ v => dF_keep h2 i v⟩) (fun w _ => Below.refl _ _) ?_ (fun j o _ _ h => by cases h) ?_
 ·refine ⟨?_, ?_, ?_, ?_, ?_, ?_, ?_, ?_, ?_, ?_, ?_, ?_, ?_, ?_, ?_, ?_, ?_, trivial⟩
  all_goals
   intro vs w5 hp hF
   have r5 := HRUN.out.grow hp
   have b5 := HBI.out.keep hp
   have x10 : w5.cell? ⟨g, 10, none⟩ = some (.slice (some ⟨ga, 0, none⟩) 8 gc) := r5.in rfl
   have x11 : w5.cell? ⟨g, 11, none⟩ = some (.slice (some ⟨ma, 0, none⟩) 128 mc) := r5.in rfl
   obtain ⟨z0, z1, z2, z3⟩ := b5.c4
   have y1 : w5.cell? ⟨ga, ka, none⟩ = some (.int .i64 rv) := by rw [← Hrv.out]; exact own_getD r5.regs (by rw [HH.out.ok.st.rl]; exact ka8)
   clear r5 b5 hp
   simp [depsB, Region.binds, dF] at hF
   simp [stL, depsB, Region.binds, Act.put, hF]
  all_goals (go_wp2_with fail; exact ⟨rfl, Below.refl _ _⟩)
 intro vs w5 hp hF
 have eT := hF 16 (by decide) rfl
 have eV := hF 15 (by decide) rfl
 replace eT : vs 16 = .pointer (some ⟨ma, kb, none⟩) := eT
 replace eV : vs 15 = .int .i64 rv := eV
 show wpList Tryd.prog _ _ [_] _ _
 simp [stL, Act.put, eT, eV]
 clear hF eT eV
 have r5 := HRUN.out.grow hp
 have y2 : w5.cell? ⟨ma, kb, none⟩ = some (.int .i64 (s.mem.getD kb 0)) := own_getD r5.mem (by rw [HH.out.ok.st.ml]; exact kb8)
 have y3 := r5.mem.free kb
 have HR6 := Lib.hid (show RunAt z b (w5.setCell ⟨ma, kb, none⟩ (.int .i64 rv)) g ga ma gc mc hv u cy st x (stepM u.d x s ⟨7, (ka : Int), (kb : Int), imm⟩) from by have e : stepM u.d x s ⟨7, (ka : Int), (kb : Int), imm⟩ = { s with mem := s.mem.set kb rv } := (show { s with mem := s.mem.set kb (s.regs.getD ka 0) } = _ by rw [Hrv.out]); rw [e]; exact r5.memw (k := kb) (y := rv) ⟨by omega, by omega⟩)
 have HB6 := Lib.hid (below_set (k := kb) (u := .int .i64 rv) (HBW.out.trans (hp.mono (by have := HBW.out.size; have := HH.out.old; omega))) (r5.mem.block.1))
 clear r5 hp
 generalize vs 0 = x0
 generalize vs 1 = x1
 generalize vs 2 = x2
 generalize vs 3 = x3
 generalize vs 4 = x4
 generalize vs 5 = x5
 generalize vs 6 = x6
 generalize vs 7 = x7
 generalize vs 8 = x8
 generalize vs 9 = x9
 generalize vs 10 = x10
 generalize vs 11 = x11
 generalize vs 12 = x12
 generalize vs 13 = x13
 generalize vs 14 = x14
 go_wp2_with fail
 go_end0
 exact RetOp.mk HR6.out HB6.out
set_option maxRecDepth 100000 in
set_option maxHeartbeats 4000000 in
theorem op_11 {z : Outs} {b : Nat} {w0 w : World} {g ga ma gc mc : Nat} {hv : Value} {u : PrgA} {cy st x : Int} {s : Smp} {a bb imm : Int} (h : OpIn z b w0 w g ga ma gc mc hv u cy st x s ⟨11, a, bb, imm⟩) :
  Calls Tryd.prog 99 #[.pointer (some ⟨g, 0, none⟩), .agg #[.int .i64 11, .int .i64 a, .int .i64 bb, .int .i64 imm]] w (RetOp z b w0 w g ga ma gc mc hv u cy st x (stepM u.d x s ⟨11, a, bb, imm⟩)) := by
 obtain ⟨f1, f2, f3, f4, f5⟩ := fld_reg (suit_formed h.suit)
 have hbw : b ≤ w.heap.size := by have := h.bel.size; have := h.old; omega
 have HH := Lib.hid h
 simp only at f1 f2 f3 f4 f5
 obtain ⟨a0, a1⟩ := f1 (by simp)
 obtain ⟨ka, rfl⟩ := Int.eq_ofNat_of_zero_le a0
 have ka8 : ka < 8 := by omega
 obtain ⟨bb0, bb1⟩ := f2 (by simp)
 obtain ⟨kb, rfl⟩ := Int.eq_ofNat_of_zero_le bb0
 have kb8 : kb < 8 := by omega
 obtain ⟨rv, hrv⟩ : ∃ v, s.regs.getD kb 0 = v := ⟨_, rfl⟩
 have rvb := fitD_bound (wordD_at h.ok.st.rw (k := kb) (by rw [h.ok.st.rl]; exact kb8))
 rw [hrv] at rvb
 have Hrv := Lib.hid hrv
 clear hrv
 have k0 : (0 : Int) ≤ (ka : Int) := by omega
 have k1 : (ka : Int) < 8 := by omega
 have k2 : (0 : Int) ≤ (kb : Int) := by omega
 have k3 : (kb : Int) < 8 := by omega
 clear h f1 f2 f3 f4 f5
 go_enter Tryd.func99, Tryd.ntmps99
 go_upto_region 1 with fail
 obtain ⟨bi, hb0⟩ := entryJ w ⟨11, (ka : Int), (kb : Int), imm⟩ _ rfl
 change Code.wp _ _ _ _ (w.alloc (.cells (Ins.cells ⟨11, (ka : Int), (kb : Int), imm⟩).toArray 109))
 generalize (w.alloc (.cells (Ins.cells ⟨11, (ka : Int), (kb : Int), imm⟩).toArray 109)) = W0 at bi hb0 ⊢
 have HRUN := Lib.hid (HH.out.run.grow hb0)
 have HBI := Lib.hid bi
 have HBW := Lib.hid (HH.out.bel.trans (hb0.mono hbw))
 clear bi hb0
 generalize w.heap.size = gi at HBI ⊢
 refine wp_region_grow8 (fun x => Nat.blt x 17) (fun _ => false) (fun w2 => Below W0.heap.size W0 w2) (fun a b => Below a.heap.size a b) (dF 0 [.v (.pointer (some ⟨g, 0, none⟩)), .v (.pointer (some ⟨g, 0, none⟩)), .v (.pointer (some ⟨g, 10, none⟩)), .v (.pointer (some ⟨g, 10, none⟩)), .v (.slice (some ⟨ga, 0, none⟩) 8 gc), .v (.pointer (some ⟨gi, 1, none⟩)), .v (.int .i64 (ka : Int)), .v (.pointer (some ⟨g, 0, none⟩)), .v (.pointer (some ⟨g, 0, none⟩)), .v (.pointer (some ⟨g, 10, none⟩)), .v (.pointer (some ⟨g, 10, none⟩)), .v (.slice (some ⟨ga, 0, none⟩) 8 gc), .v (.pointer (some ⟨gi, 2, none⟩)), .v (.int .i64 (kb : Int)), .v (.pointer (some ⟨ga, kb, none⟩)), .v (.int .i64 rv), .v (.pointer (some ⟨ga, ka, none⟩))]) (by kernel_rfl) (by kernel_rfl) (Below.drew (Below.refl _ _)) (fun a b h1 h2 => ⟨below_then h1 h2, fun i _ v => dF_keep h2 i v⟩) (fun w _ => Below.refl _ _) ?_ (fun j o _ _ h => by cases h) ?_
 ·refine ⟨?_, ?_, ?_, ?_, ?_, ?_, ?_, ?_, ?_, ?_, ?_, ?_, ?_, ?_, ?_, ?_, ?_, trivial⟩
  all_goals
   intro vs w5 hp hF
   have r5 := HRUN.out.grow hp
   have b5 := HBI.out.keep hp
   have x10 : w5.cell? ⟨g, 10, none⟩ = some (.slice (some ⟨ga, 0, none⟩) 8 gc) := r5.in rfl
   obtain ⟨z0, z1, z2, z3⟩ := b5.c4
   have y1 : w5.cell? ⟨ga, kb, none⟩ = some (.int .i64 rv) := by rw [← Hrv.out]; exact own_getD r5.regs (by rw [HH.out.ok.st.rl]; exact kb8)
   clear r5 b5 hp
   simp [depsB, Region.binds, dF] at hF
   simp [stL, depsB, Region.binds, Act.put, hF]
  all_goals (go_wp2_with fail; exact ⟨rfl, Below.refl _ _⟩)
 intro vs w5 hp hF
 have eT := hF 16 (by decide) rfl
 have eV := hF 15 (by decide) rfl
 replace eT : vs 16 = .pointer (some ⟨ga, ka, none⟩) := eT
 replace eV : vs 15 = .int .i64 rv := eV
 show wpList Tryd.prog _ _ [_] _ _
 simp [stL, Act.put, eT, eV]
 clear hF eT eV
 have r5 := HRUN.out.grow hp
 have y2 : w5.cell? ⟨ga, ka, none⟩ = some (.int .i64 (s.regs.getD ka 0)) := own_getD r5.regs (by rw [HH.out.ok.st.rl]; exact ka8)
 have y3 := r5.regs.free ka
 have HR6 := Lib.hid (show RunAt z b (w5.setCell ⟨ga, ka, none⟩ (.int .i64 rv)) g ga ma gc mc hv u cy st x (stepM u.d x s ⟨11, (ka : Int), (kb : Int), imm⟩) from by have e : stepM u.d x s ⟨11, (ka : Int), (kb : Int), imm⟩ = { s with regs := s.regs.set ka rv } := (show { s with regs := s.regs.set ka (s.regs.getD kb 0) } = _ by rw [Hrv.out]); rw [e]; exact r5.reg (k := ka) (y := rv) ⟨by omega, by omega⟩)
 have HB6 := Lib.hid (below_set (k := ka) (u := .int .i64 rv) (HBW.out.trans (hp.mono (by have := HBW.out.size; have := HH.out.old; omega))) (r5.regs.block.1))
 clear r5 hp
 generalize vs 0 = x0
 generalize vs 1 = x1
 generalize vs 2 = x2
 generalize vs 3 = x3
 generalize vs 4 = x4
 generalize vs 5 = x5
 generalize vs 6 = x6
 generalize vs 7 = x7
 generalize vs 8 = x8
 generalize vs 9 = x9
 generalize vs 10 = x10
 generalize vs 11 = x11
 generalize vs 12 = x12
 generalize vs 13 = x13
 generalize vs 14 = x14
 go_wp2_with fail
 go_end0
 exact RetOp.mk HR6.out HB6.out
set_option maxRecDepth 100000 in
set_option maxHeartbeats 4000000 in
theorem op_9 {z : Outs} {b : Nat} {w0 w : World} {g ga ma gc mc : Nat} {hv : Value} {u : PrgA} {cy st x : Int} {s : Smp} {a bb imm : Int} (h : OpIn z b w0 w g ga ma gc mc hv u cy st x s ⟨9, a, bb, imm⟩) :
  Calls Tryd.prog 97 #[.pointer (some ⟨g, 0, none⟩), .agg #[.int .i64 9, .int .i64 a, .int .i64 bb, .int .i64 imm]] w (RetOp z b w0 w g ga ma gc mc hv u cy st x (stepM u.d x s ⟨9, a, bb, imm⟩)) := by
 obtain ⟨f1, f2, f3, f4, f5⟩ := fld_reg (suit_formed h.suit)
 have hbw : b ≤ w.heap.size := by have := h.bel.size; have := h.old; omega
 have HH := Lib.hid h
 simp only at f1 f2 f3 f4 f5
 obtain ⟨a0, a1⟩ := f1 (by simp)
 obtain ⟨ka, rfl⟩ := Int.eq_ofNat_of_zero_le a0
 have ka8 : ka < 8 := by omega
 have k0 : (0 : Int) ≤ (ka : Int) := by omega
 have k1 : (ka : Int) < 8 := by omega
 have hxb := fitD_bound h.xok
 clear h f1 f2 f3 f4 f5
 go_enter Tryd.func97, Tryd.ntmps97
 go_upto_region 1 with fail
 obtain ⟨bi, hb0⟩ := entryJ w ⟨9, (ka : Int), bb, imm⟩ _ rfl
 change Code.wp _ _ _ _ (w.alloc (.cells (Ins.cells ⟨9, (ka : Int), bb, imm⟩).toArray 109))
 generalize (w.alloc (.cells (Ins.cells ⟨9, (ka : Int), bb, imm⟩).toArray 109)) = W0 at bi hb0 ⊢
 have HRUN := Lib.hid (HH.out.run.grow hb0)
 have HBI := Lib.hid bi
 have HBW := Lib.hid (HH.out.bel.trans (hb0.mono hbw))
 clear bi hb0
 generalize w.heap.size = gi at HBI ⊢
 refine wp_region_grow8 (fun x => Nat.blt x 12) (fun _ => false) (fun w2 => Below W0.heap.size W0 w2) (fun a b => Below a.heap.size a b) (dF 0 [.v (.pointer (some ⟨g, 0, none⟩)), .v (.pointer (some ⟨g, 0, none⟩)), .v (.pointer (some ⟨g, 10, none⟩)), .v (.pointer (some ⟨g, 10, none⟩)), .v (.slice (some ⟨ga, 0, none⟩) 8 gc), .v (.pointer (some ⟨gi, 1, none⟩)), .v (.int .i64 (ka : Int)), .v (.pointer (some ⟨g, 0, none⟩)), .v (.pointer (some ⟨g, 0, none⟩)), .v (.pointer (some ⟨g, 16, none⟩)), .v (.int .i64 x), .v (.pointer (some ⟨ga, ka, none⟩))]) (by kernel_rfl) (by kernel_rfl) (Below.drew (Below.refl _ _)) (fun a b h1 h2 => ⟨below_then h1 h2, fun i _ v => dF_keep h2 i v⟩) (fun w _ => Below.refl _ _) ?_ (fun j o _ _ h => by cases h) ?_
 ·refine ⟨?_, ?_, ?_, ?_, ?_, ?_, ?_, ?_, ?_, ?_, ?_, ?_, trivial⟩
  all_goals
   intro vs w5 hp hF
   have r5 := HRUN.out.grow hp
   have b5 := HBI.out.keep hp
   have x10 : w5.cell? ⟨g, 10, none⟩ = some (.slice (some ⟨ga, 0, none⟩) 8 gc) := r5.in rfl
   have x16 : w5.cell? ⟨g, 16, none⟩ = some (.int .i64 x) := r5.in rfl
   obtain ⟨z0, z1, z2, z3⟩ := b5.c4
   clear r5 b5 hp
   simp [depsB, Region.binds, dF] at hF
   simp [stL, depsB, Region.binds, Act.put, hF]
  all_goals (go_wp2_with fail; exact ⟨rfl, Below.refl _ _⟩)
 intro vs w5 hp hF
 have eT := hF 11 (by decide) rfl
 have eV := hF 10 (by decide) rfl
 replace eT : vs 11 = .pointer (some ⟨ga, ka, none⟩) := eT
 replace eV : vs 10 = .int .i64 x := eV
 show wpList Tryd.prog _ _ [_] _ _
 simp [stL, Act.put, eT, eV]
 clear hF eT eV
 have r5 := HRUN.out.grow hp
 have y2 : w5.cell? ⟨ga, ka, none⟩ = some (.int .i64 (s.regs.getD ka 0)) := own_getD r5.regs (by rw [HH.out.ok.st.rl]; exact ka8)
 have y3 := r5.regs.free ka
 have HR6 := Lib.hid (show RunAt z b _ g ga ma gc mc hv u cy st x (stepM u.d x s ⟨9, (ka : Int), bb, imm⟩) from r5.reg (k := ka) (y := x) ⟨by omega, by omega⟩)
 have HB6 := Lib.hid (below_set (k := ka) (u := .int .i64 x) (HBW.out.trans (hp.mono (by have := HBW.out.size; have := HH.out.old; omega))) (r5.regs.block.1))
 clear r5 hp
 generalize vs 0 = x0
 generalize vs 1 = x1
 generalize vs 2 = x2
 generalize vs 3 = x3
 generalize vs 4 = x4
 generalize vs 5 = x5
 generalize vs 6 = x6
 generalize vs 7 = x7
 generalize vs 8 = x8
 generalize vs 9 = x9
 go_wp2_with fail
 go_end0
 exact RetOp.mk HR6.out HB6.out
set_option maxRecDepth 100000 in
set_option maxHeartbeats 4000000 in
theorem op_10 {z : Outs} {b : Nat} {w0 w : World} {g ga ma gc mc : Nat} {hv : Value} {u : PrgA} {cy st x : Int} {s : Smp} {a bb imm : Int} (h : OpIn z b w0 w g ga ma gc mc hv u cy st x s ⟨10, a, bb, imm⟩) :
  Calls Tryd.prog 98 #[.pointer (some ⟨g, 0, none⟩), .agg #[.int .i64 10, .int .i64 a, .int .i64 bb, .int .i64 imm]] w (RetOp z b w0 w g ga ma gc mc hv u cy st x (stepM u.d x s ⟨10, a, bb, imm⟩)) := by
 obtain ⟨f1, f2, f3, f4, f5⟩ := fld_reg (suit_formed h.suit)
 have hbw : b ≤ w.heap.size := by have := h.bel.size; have := h.old; omega
 have HH := Lib.hid h
 simp only at f1 f2 f3 f4 f5
 obtain ⟨a0, a1⟩ := f1 (by simp)
 obtain ⟨ka, rfl⟩ := Int.eq_ofNat_of_zero_le a0
 have ka8 : ka < 8 := by omega
 obtain ⟨rv, hrv⟩ : ∃ v, s.regs.getD ka 0 = v := ⟨_, rfl⟩
 have rvb := fitD_bound (wordD_at h.ok.st.rw (k := ka) (by rw [h.ok.st.rl]; exact ka8))
 rw [hrv] at rvb
 have Hrv := Lib.hid hrv
 clear hrv
 have k0 : (0 : Int) ≤ (ka : Int) := by omega
 have k1 : (ka : Int) < 8 := by omega
 clear h f1 f2 f3 f4 f5
 go_enter Tryd.func98, Tryd.ntmps98
 go_upto_region 1 with fail
 obtain ⟨bi, hb0⟩ := entryJ w ⟨10, (ka : Int), bb, imm⟩ _ rfl
 change Code.wp _ _ _ _ (w.alloc (.cells (Ins.cells ⟨10, (ka : Int), bb, imm⟩).toArray 109))
 generalize (w.alloc (.cells (Ins.cells ⟨10, (ka : Int), bb, imm⟩).toArray 109)) = W0 at bi hb0 ⊢
 have HRUN := Lib.hid (HH.out.run.grow hb0)
 have HBI := Lib.hid bi
 have HBW := Lib.hid (HH.out.bel.trans (hb0.mono hbw))
 clear bi hb0
 generalize w.heap.size = gi at HBI ⊢
 refine wp_region_grow8 (fun x => Nat.blt x 12) (fun _ => false) (fun w2 => Below W0.heap.size W0 w2) (fun a b => Below a.heap.size a b) (dF 0 [.v (.pointer (some ⟨g, 0, none⟩)), .v (.pointer (some ⟨g, 0, none⟩)), .v (.pointer (some ⟨g, 0, none⟩)), .v (.pointer (some ⟨g, 10, none⟩)), .v (.pointer (some ⟨g, 10, none⟩)), .v (.slice (some ⟨ga, 0, none⟩) 8 gc), .v (.pointer (some ⟨gi, 1, none⟩)), .v (.int .i64 (ka : Int)), .v (.pointer (some ⟨ga, ka, none⟩)), .v (.int .i64 rv), .v (.pointer (some ⟨g, 0, none⟩)), .v (.pointer (some ⟨g, 17, none⟩))]) (by kernel_rfl) (by kernel_rfl) (Below.drew (Below.refl _ _)) (fun a b h1 h2 => ⟨below_then h1 h2, fun i _ v => dF_keep h2 i v⟩) (fun w _ => Below.refl _ _) ?_ (fun j o _ _ h => by cases h) ?_
 ·refine ⟨?_, ?_, ?_, ?_, ?_, ?_, ?_, ?_, ?_, ?_, ?_, ?_, trivial⟩
  all_goals
   intro vs w5 hp hF
   have r5 := HRUN.out.grow hp
   have b5 := HBI.out.keep hp
   have x10 : w5.cell? ⟨g, 10, none⟩ = some (.slice (some ⟨ga, 0, none⟩) 8 gc) := r5.in rfl
   obtain ⟨z0, z1, z2, z3⟩ := b5.c4
   have y1 : w5.cell? ⟨ga, ka, none⟩ = some (.int .i64 rv) := by rw [← Hrv.out]; exact own_getD r5.regs (by rw [HH.out.ok.st.rl]; exact ka8)
   clear r5 b5 hp
   simp [depsB, Region.binds, dF] at hF
   simp [stL, depsB, Region.binds, Act.put, hF]
  all_goals (go_wp2_with fail; exact ⟨rfl, Below.refl _ _⟩)
 intro vs w5 hp hF
 have eT := hF 11 (by decide) rfl
 have eV := hF 9 (by decide) rfl
 replace eT : vs 11 = .pointer (some ⟨g, 17, none⟩) := eT
 replace eV : vs 9 = .int .i64 rv := eV
 show wpList Tryd.prog _ _ [_] _ _
 simp [stL, Act.put, eT, eV]
 clear hF eT eV
 have r5 := HRUN.out.grow hp
 have x17 : w5.cell? ⟨g, 17, none⟩ = some (.int .i64 s.out) := r5.in rfl
 have f17 := r5.free 17
 have HR6 := Lib.hid (r5.put (k := 17) (v := .int .i64 rv) (s' := stepM u.d x s ⟨10, (ka : Int), bb, imm⟩) (cy' := cy) (st' := st) (x' := x) (by decide) (by have : (stepM u.d x s ⟨10, (ka : Int), bb, imm⟩).out = rv := Hrv.out; unfold runL; rw [this]; rfl) rfl rfl rfl)
 have HB6 := Lib.hid (below_set (k := 17) (u := .int .i64 rv) (HBW.out.trans (hp.mono (by have := HBW.out.size; have := HH.out.old; omega))) HRUN.out.hb)
 clear r5 hp
 generalize vs 0 = x0
 generalize vs 1 = x1
 generalize vs 2 = x2
 generalize vs 3 = x3
 generalize vs 4 = x4
 generalize vs 5 = x5
 generalize vs 6 = x6
 generalize vs 7 = x7
 generalize vs 8 = x8
 generalize vs 10 = x10
 go_wp2_with fail
 go_end0
 exact RetOp.mk HR6.out HB6.out
end Go.Proofs.YtdiflpbioohddaaDoor
