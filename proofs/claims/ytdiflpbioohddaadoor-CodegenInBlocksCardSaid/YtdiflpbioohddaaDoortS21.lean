/- Operations of the simulator: those with calls. Printed by gen_s21.py. -/
import Derived.Test.YtdiflpbioohddaaDoortS19
set_option linter.unusedVariables false
set_option linter.unusedSimpArgs false
namespace Go.Proofs.YtdiflpbioohddaaDoor
open Go.RowKit
section
variable {z : Outs} {b : Nat} {w : World} {g ga ma gc mc ha hn hc : Nat} {hv : Value} {u : PrgA} {cy st x : Int} {s : Smp}
theorem runL_prg (j : Nat) (v : Value) (h : u.lst[j]? = some v) : (runL u ga ma gc mc hv cy st x s)[0 + j]? = some v := by
 rw [Nat.zero_add]
 unfold runL
 rw [List.getElem?_append_left (List.getElem?_eq_some_iff.1 h).1]; exact h
theorem runL_mac (j : Nat) (v : Value) (h : ([.slice (some ⟨ga, 0, none⟩) 8 gc, .slice (some ⟨ma, 0, none⟩) 128 mc, hv, .int .i64 cy, .int .i64 st] : List Value)[j]? = some v) : (runL u ga ma gc mc hv cy st x s)[10 + j]? = some v := by
 match j, h with
 | 0, h => exact h
 | 1, h => exact h
 | 2, h => exact h
 | 3, h => exact h
 | 4, h => exact h
 | n + 5, h => simp at h
theorem ld_prgR {ops : Array Oper} {rest : List Oper} {o : Oper} {a : Act} {Q : Exit → Act → World → Prop} (hr : RunAt z b w g ga ma gc mc hv u cy st x s) (hgd : o.guard = none) (y : Operand) (ho : o.op = .load 41 y) (hx : a.eval y = .pointer (some ⟨g, 0, none⟩)) (h : wpList Tryd.prog ops Q rest (a.put o.dst (.agg u.lst.toArray)) w) : wpList Tryd.prog ops Q (o :: rest) a w := by
 obtain ⟨d, h1, h2⟩ := row_prgS
 exact wp_ld hgd _ y ho g 0 hx hr.box u.lst runL_prg d h1 h2 size_prgS h
theorem ld_macR {ops : Array Oper} {rest : List Oper} {o : Oper} {a : Act} {Q : Exit → Act → World → Prop} (hr : RunAt z b w g ga ma gc mc hv u cy st x s) (hgd : o.guard = none) (y : Operand) (ho : o.op = .load 32 y) (hx : a.eval y = .pointer (some ⟨g, 10, none⟩)) (h : wpList Tryd.prog ops Q rest (a.put o.dst (.agg #[.slice (some ⟨ga, 0, none⟩) 8 gc, .slice (some ⟨ma, 0, none⟩) 128 mc, hv, .int .i64 cy, .int .i64 st])) w) : wpList Tryd.prog ops Q (o :: rest) a w := by
 obtain ⟨d, h1, h2⟩ := row_mac
 exact wp_ld hgd _ y ho g 10 hx hr.box [.slice (some ⟨ga, 0, none⟩) 8 gc, .slice (some ⟨ma, 0, none⟩) 128 mc, hv, .int .i64 cy, .int .i64 st] runL_mac d h1 h2 size_mac h
end
theorem own_some {b : Nat} {w : World} {v : Value} {l : List Int} (h : Own b w v l) (hl : 0 < l.length) : ∃ q c, v = .slice (some ⟨q, 0, none⟩) l.length c := by
 obtain ⟨h1, h2 | ⟨g, cap, cur, hv, -⟩⟩ := h.1
 ·omega
 ·exact ⟨g, cap, hv⟩
set_option maxRecDepth 100000 in
set_option maxHeartbeats 4000000 in
theorem op_4 {z : Outs} {b : Nat} {w0 w : World} {g ga ma gc mc : Nat} {hv : Value} {u : PrgA} {cy st x : Int} {s : Smp} {a bb imm : Int} (h : OpIn z b w0 w g ga ma gc mc hv u cy st x s ⟨4, a, bb, imm⟩) :
  Calls Tryd.prog 91 #[.pointer (some ⟨g, 0, none⟩), .agg #[.int .i64 4, .int .i64 a, .int .i64 bb, .int .i64 imm]] w (RetOp z b w0 w g ga ma gc mc hv u cy st x (stepM u.d x s ⟨4, a, bb, imm⟩)) := by
 obtain ⟨f1, f2, f3, f4, f5⟩ := fld_reg (suit_formed h.suit)
 have hbw : b ≤ w.heap.size := by have := h.bel.size; have := h.old; omega
 have HH := Lib.hid h
 simp only at f1 f2 f3 f4 f5
 obtain ⟨ra0, ra1, ra2⟩ := suit_ring h.suit (.inl rfl)
 simp only at ra0 ra1 ra2
 obtain ⟨ka, rfl⟩ := Int.eq_ofNat_of_zero_le ra0
 have ka8 : ka < u.d.rg.length := by omega
 have khl : ka < s.heads.length := by rw [h.ok.st.hl]; exact ka8
 have hhr := headsB_at h.ok.st.hw khl
 obtain ⟨ha, hc, hhe⟩ := own_some h.run.heads (by omega)
 obtain ⟨hn, hhn⟩ : ∃ n, s.heads.length = n := ⟨_, rfl⟩
 rw [hhn] at hhe khl
 subst hhe
 have HHN := Lib.hid hhn
 have hcb : (ka : Int) < (hn : Int) := by omega
 clear hhn
 obtain ⟨rb0, rb1⟩ := ra2 trivial
 obtain ⟨kb, rfl⟩ := Int.eq_ofNat_of_zero_le rb0
 have hrin := ringIn_iff.1 (valid_ring h.val ka8)
 have hkb2 : (kb : Int) ≤ 128 := by
  have : rgA u.d (ka : Int) = u.d.rg.getD ka (0, 0) := rfl
  rw [this] at rb1
  omega
 obtain ⟨-, -, pl0, pl1⟩ := plc_in h.val (hs := s.heads) (a := (ka : Int)) (b := (kb : Int)) ra0 ra1
 obtain ⟨pn, hpn⟩ := Int.eq_ofNat_of_zero_le pl0
 rw [hpn] at pl1
 have pn8 : pn < 128 := by omega
 have HPN := Lib.hid hpn
 have HKA := Lib.hid ka8
 have HHR := Lib.hid hhr
 obtain ⟨rv, hrv⟩ : ∃ v, s.mem.getD pn 0 = v := ⟨_, rfl⟩
 have rvb := fitD_bound (wordD_at h.ok.st.mw (k := pn) (by rw [h.ok.st.ml]; exact pn8))
 rw [hrv] at rvb
 have Hrv := Lib.hid hrv
 clear hrv
 have hip := (formed_parts (suit_formed h.suit)).2.2.2
 simp only at hip
 obtain ⟨p, hpp⟩ : ∃ p, rv * imm = p := ⟨_, rfl⟩
 have hpb := mul_bound (x := rv) (y := imm) (B := 8388608) (C := 8388608) ⟨by omega, by omega⟩ hip
 rw [hpp] at hpb
 have p1 : -9223372036854775808 ≤ p := by omega
 have p2 : p ≤ 9223372036854775807 := by omega
 obtain ⟨q, hq⟩ : ∃ q, IntKind.i64.wrap (s.sum + p) = q := ⟨_, rfl⟩
 have hq2 : wrap64 (s.sum + p) = q := (IntWalk.i64_left _).symm.trans hq
 have wp : IntKind.i64.wrap (rv * imm) = p := by rw [hpp]; exact IntWalk.i64_in _ (by omega)
 have HQ := Lib.hid hq2
 have HPP := Lib.hid hpp
 clear hip hpb
 have k0 : (0 : Int) ≤ (pn : Int) := by omega
 have k1 : (pn : Int) < 128 := by omega
 have k2 : (0 : Int) ≤ (kb : Int) := by omega
 clear hpn hhr hrin pl0 rb0 rb1 ra2
 clear h f1 f2 f3 f4 f5
 go_enter Tryd.func91, Tryd.ntmps91
 go_upto_region 1 with fail
 obtain ⟨bi, hb0⟩ := entryJ w ⟨4, (ka : Int), (kb : Int), imm⟩ _ rfl
 change Code.wp _ _ _ _ (w.alloc (.cells (Ins.cells ⟨4, (ka : Int), (kb : Int), imm⟩).toArray 109))
 generalize (w.alloc (.cells (Ins.cells ⟨4, (ka : Int), (kb : Int), imm⟩).toArray 109)) = W0 at bi hb0 ⊢
 have HRUN := Lib.hid (HH.out.run.grow hb0)
 have HBI := Lib.hid bi
 have HBW := Lib.hid (HH.out.bel.trans (hb0.mono hbw))
 clear bi hb0
 generalize hgi : w.heap.size = gi at HBI ⊢
 have HGI := Lib.hid hgi
 clear hgi
 have HNG : Hid (g ≠ gi ∧ ga ≠ gi ∧ ma ≠ gi ∧ ha ≠ gi) := by
  have q1 := HH.out.run.box.1
  have q2 := (HH.out.run.regs.block).2
  have q3 := (HH.out.run.mem.block).2
  have q4 := (HH.out.run.heads.block).2
  exact Lib.hid ⟨by rw [← HGI.out]; omega, by rw [← HGI.out]; omega, by rw [← HGI.out]; omega, by rw [← HGI.out]; omega⟩
 have CP : Hid (∀ w1, Below W0.heap.size W0 w1 → Calls Tryd.prog 92 #[.agg u.lst.toArray, .agg #[.slice (some ⟨ga, 0, none⟩) 8 gc, .slice (some ⟨ma, 0, none⟩) 128 mc, .slice (some ⟨ha, 0, none⟩) hn hc, .int .i64 cy, .int .i64 st], .int .i64 (ka : Int), .int .i64 (kb : Int)] w1 fun e w' => e = .returned (.int .i64 (pn : Int)) ∧ Below w1.heap.size w1 w') := Lib.hid fun w1 hb => by
  rw [← HPN.out]
  exact sm_place u _ _ _ 8 gc 128 mc hn hc ka s.heads cy st (kb : Int) w1 (HH.out.ring (HBW.out.trans (hb.mono (by have := HBW.out.size; have := HH.out.old; omega)))) HH.out.val (HRUN.out.grow hb).heads.ints HHN.out HKA.out khl HHR.out (by omega)
 refine wp_region_grow8 (fun x => Nat.blt x 30) (fun _ => false) (fun w2 => Below W0.heap.size W0 w2) (fun a b => Below a.heap.size a b) (dF 0 [.v (.pointer (some ⟨g, 0, none⟩)), .v (.pointer (some ⟨g, 0, none⟩)), .v (.pointer (some ⟨g, 15, none⟩)), .v (.int .i64 s.sum), .v (.pointer (some ⟨g, 0, none⟩)), .v (.pointer (some ⟨g, 0, none⟩)), .v (.pointer (some ⟨g, 10, none⟩)), .v (.pointer (some ⟨g, 11, none⟩)), .v (.slice (some ⟨ma, 0, none⟩) 128 mc), .v (.pointer (some ⟨g, 0, none⟩)), .v (.pointer (some ⟨g, 0, none⟩)), .v (.pointer (some ⟨g, 0, none⟩)), .v (.agg u.lst.toArray), .v (.pointer (some ⟨g, 0, none⟩)), .v (.pointer (some ⟨g, 0, none⟩)), .v (.pointer (some ⟨g, 10, none⟩)), .v (.agg #[.slice (some ⟨ga, 0, none⟩) 8 gc, .slice (some ⟨ma, 0, none⟩) 128 mc, .slice (some ⟨ha, 0, none⟩) hn hc, .int .i64 cy, .int .i64 st]), .v (.pointer (some ⟨gi, 1, none⟩)), .v (.int .i64 (ka : Int)), .v (.pointer (some ⟨gi, 2, none⟩)), .v (.int .i64 (kb : Int)), .v (.int .i64 (pn : Int)), .v (.pointer (some ⟨ma, pn, none⟩)), .v (.int .i64 rv), .v (.pointer (some ⟨gi, 3, none⟩)), .v (.int .i64 imm), .v (.int .i64 p), .v (.int .i64 q), .v (.pointer (some ⟨g, 0, none⟩)), .v (.pointer (some ⟨g, 15, none⟩))]) (by kernel_rfl) (by kernel_rfl) (Below.drew (Below.refl _ _)) (fun a b h1 h2 => ⟨below_then h1 h2, fun i _ v => dF_keep h2 i v⟩) (fun w _ => Below.refl _ _) ?_ (fun j o _ _ h => by cases h) ?_
 ·refine ⟨?_, ?_, ?_, ?_, ?_, ?_, ?_, ?_, ?_, ?_, ?_, ?_, ?_, ?_, ?_, ?_, ?_, ?_, ?_, ?_, ?_, ?_, ?_, ?_, ?_, ?_, ?_, ?_, ?_, ?_, trivial⟩
  all_goals
   intro vs w5 hp hF
   have r5 := HRUN.out.grow hp
   have b5 := HBI.out.keep (hp.mono (by have := HBI.out.1; exact Nat.le_refl _))
   have x15 : w5.cell? ⟨g, 15, none⟩ = some (.int .i64 s.sum) := r5.in rfl
   have x11 : w5.cell? ⟨g, 11, none⟩ = some (.slice (some ⟨ma, 0, none⟩) 128 mc) := r5.in rfl
   obtain ⟨z0, z1, z2, z3⟩ := b5.c4
   have y1 : w5.cell? ⟨ma, pn, none⟩ = some (.int .i64 rv) := by rw [← Hrv.out]; exact own_getD r5.mem (by rw [HH.out.ok.st.ml]; exact pn8)
   have R5 := Lib.hid r5
   have HP5 := Lib.hid hp
   clear r5 b5 hp
   simp [depsB, Region.binds, dF] at hF
   simp [stL, depsB, Region.binds, Act.put, hF]
  all_goals first
   | (go_wp2_with fail; exact ⟨rfl, Below.refl _ _⟩)
   | (refine ld_prgR R5.out rfl _ rfl rfl ?_; refine wpList_nil ?_; exact ⟨rfl, _, rfl, rfl, Below.refl _ _⟩)
   | (refine ld_macR R5.out rfl _ rfl rfl ?_; refine wpList_nil ?_; exact ⟨rfl, _, rfl, rfl, Below.refl _ _⟩)
   | (go_wp2_with (go_at_call 92; (with_reducible refine (CP.out _ HP5.out).mono ?_); rintro e6 w6 ⟨rfl, hb6⟩); first | exact ⟨rfl, hb6⟩ | rfl)
 intro vs w5 hp hF
 have eT := hF 29 (by decide) rfl
 have eV := hF 27 (by decide) rfl
 replace eT : vs 29 = .pointer (some ⟨g, 15, none⟩) := eT
 replace eV : vs 27 = .int .i64 q := eV
 show wpList Tryd.prog _ _ [_] _ _
 simp [stL, Act.put, eT, eV]
 clear hF eT eV
 have r5 := HRUN.out.grow hp
 have x15 : w5.cell? ⟨g, 15, none⟩ = some (.int .i64 s.sum) := r5.in rfl
 have f15 := r5.free 15
 have HR6 := Lib.hid (r5.put (k := 15) (v := .int .i64 q) (s' := stepM u.d x s ⟨4, (ka : Int), (kb : Int), imm⟩) (cy' := cy) (st' := st) (x' := x) (by decide) (by have : (stepM u.d x s ⟨4, (ka : Int), (kb : Int), imm⟩).sum = q := (show wrap64 (s.sum + s.mem.getD (plc u.d s.heads (ka : Int) (kb : Int)).toNat 0 * imm) = q by rw [HPN.out, Int.toNat_natCast, Hrv.out, HPP.out]; exact HQ.out); unfold runL; rw [this]; rfl) rfl rfl rfl)
 have HB6 := Lib.hid (below_set (k := 15) (u := .int .i64 q) (HBW.out.trans (hp.mono (by have := HBW.out.size; have := HH.out.old; omega))) HRUN.out.hb)
 have HBI6 := Lib.hid (Box.past (k := 15) (u := .int .i64 q) (HBI.out.keep hp) (show g ≠ gi from HNG.out.1))
 clear r5 hp
 generalize vs 0 = x06
 generalize vs 1 = x16
 generalize vs 2 = x26
 generalize vs 3 = x36
 generalize vs 4 = x46
 generalize vs 5 = x56
 generalize vs 6 = x66
 generalize vs 7 = x76
 generalize vs 8 = x86
 generalize vs 9 = x96
 generalize vs 10 = x106
 generalize vs 11 = x116
 generalize vs 12 = x126
 generalize vs 13 = x136
 generalize vs 14 = x146
 generalize vs 15 = x156
 generalize vs 16 = x166
 generalize vs 17 = x176
 generalize vs 18 = x186
 generalize vs 19 = x196
 generalize vs 20 = x206
 generalize vs 21 = x216
 generalize vs 22 = x226
 generalize vs 23 = x236
 generalize vs 24 = x246
 generalize vs 25 = x256
 generalize vs 26 = x266
 generalize vs 28 = x286
 go_wp2_with fail
 go_end0
 exact RetOp.mk HR6.out HB6.out
set_option maxRecDepth 100000 in
set_option maxHeartbeats 4000000 in
theorem op_5 {z : Outs} {b : Nat} {w0 w : World} {g ga ma gc mc : Nat} {hv : Value} {u : PrgA} {cy st x : Int} {s : Smp} {a bb imm : Int} (h : OpIn z b w0 w g ga ma gc mc hv u cy st x s ⟨5, a, bb, imm⟩) :
  Calls Tryd.prog 93 #[.pointer (some ⟨g, 0, none⟩), .agg #[.int .i64 5, .int .i64 a, .int .i64 bb, .int .i64 imm]] w (RetOp z b w0 w g ga ma gc mc hv u cy st x (stepM u.d x s ⟨5, a, bb, imm⟩)) := by
 obtain ⟨f1, f2, f3, f4, f5⟩ := fld_reg (suit_formed h.suit)
 have hbw : b ≤ w.heap.size := by have := h.bel.size; have := h.old; omega
 have HH := Lib.hid h
 simp only at f1 f2 f3 f4 f5
 obtain ⟨a0, a1⟩ := f1 (by simp)
 obtain ⟨ka, rfl⟩ := Int.eq_ofNat_of_zero_le a0
 have ka8 : ka < 8 := by omega
 have hV64 := h.ok.sum
 obtain ⟨V, hV⟩ : ∃ v, shD u.d s.sum = v := ⟨_, rfl⟩
 obtain ⟨rd, hrd⟩ : ∃ v, redD u.d V = v := ⟨_, rfl⟩
 obtain ⟨fb, hfb⟩ : ∃ v, fitD u.d V = v := ⟨_, rfl⟩
 have hokw : okW u.d.d0 u.d.d1 u.d.d2 u.d.d3 = true := by
  have := (valid_parts h.val).1
  unfold okWD at this
  exact (Bool.and_eq_true_iff.1 this).1
 have hrb := fitD_bound (fitD_red hokw V)
 rw [hrd] at hrb
 have HE : Hid (stepM u.d x s ⟨5, (ka : Int), bb, imm⟩ = { s with regs := s.regs.set ka rd, ov := s.ov || !fb }) := by
  show Hid ({ s with regs := s.regs.set ka (redD u.d (shD u.d s.sum)), ov := s.ov || !fitD u.d (shD u.d s.sum) } = _)
  rw [hV, hrd, hfb]
  exact Lib.hid rfl
 have CSH : Hid (∀ w1, Calls Tryd.prog 78 #[.int .i64 s.sum, .int .i64 u.d.c1, .int .i64 u.d.d2] w1 fun e w' => e = .returned (.int .i64 V) ∧ Below w1.heap.size w1 w') := Lib.hid fun w1 => by
  rw [← hV]; exact fx_Shift s.sum u.d.c1 u.d.d2 w1 hV64
 have CFT : Hid (∀ w1, Calls Tryd.prog 40 #[wordV u.d.d0 u.d.d1 u.d.d2 u.d.d3, .int .i64 V] w1 fun e w' => e = .returned (.bool fb) ∧ Below w1.heap.size w1 w') := Lib.hid fun w1 => fits_is hfb w1
 have CRD : Hid (∀ w1, Calls Tryd.prog 79 #[wordV u.d.d0 u.d.d1 u.d.d2 u.d.d3, .int .i64 V] w1 fun e w' => e = .returned (.int .i64 rd) ∧ Below w1.heap.size w1 w') := Lib.hid fun w1 => by
  rw [← hrd]; exact fx_Reduce _ _ _ _ V w1
 have k0 : (0 : Int) ≤ (ka : Int) := by omega
 have k1 : (ka : Int) < 8 := by omega
 clear hV hrd hfb hokw hV64
 clear h f1 f2 f3 f4 f5
 go_enter Tryd.func93, Tryd.ntmps93
 go_upto_region 1 with fail
 obtain ⟨bi, hb0⟩ := entryJ w ⟨5, (ka : Int), bb, imm⟩ _ rfl
 change Code.wp _ _ _ _ (w.alloc (.cells (Ins.cells ⟨5, (ka : Int), bb, imm⟩).toArray 109))
 generalize (w.alloc (.cells (Ins.cells ⟨5, (ka : Int), bb, imm⟩).toArray 109)) = W0 at bi hb0 ⊢
 have HRUN := Lib.hid (HH.out.run.grow hb0)
 have HBI := Lib.hid bi
 have HBW := Lib.hid (HH.out.bel.trans (hb0.mono hbw))
 clear bi hb0
 generalize hgi : w.heap.size = gi at HBI ⊢
 have HGI := Lib.hid hgi
 clear hgi
 have HNG : Hid (g ≠ gi ∧ ga ≠ gi ∧ ma ≠ gi ∧ True) := by
  have q1 := HH.out.run.box.1
  have q2 := (HH.out.run.regs.block).2
  have q3 := (HH.out.run.mem.block).2
  exact Lib.hid ⟨by rw [← HGI.out]; omega, by rw [← HGI.out]; omega, by rw [← HGI.out]; omega, trivial⟩
 have e15 := HRUN.out.box.ext (k := 15) (v := .int .i64 s.sum) rfl
 have e5 := HRUN.out.box.ext (k := 5) (v := .int .i64 u.d.c1) rfl
 have e2 := HRUN.out.box.ext (k := 2) (v := .int .i64 u.d.d2) rfl
 refine wp_region_ext (by kernel_rfl) (by kernel_rfl) ?_
 repeat (go_big_quiet_step (first | (go_at_call 78; exact ext_below (CSH.out _))))
 refine wpQuiet_nil ?_
 rintro w3 ⟨⟨_, hb3⟩, rfl⟩
 have HR3 := Lib.hid (HRUN.out.grow hb3)
 have HB3 := Lib.hid (HBW.out.trans (hb3.mono (by have := HBW.out.size; have := HH.out.old; omega)))
 have HI3 := Lib.hid (HBI.out.keep hb3)
 clear e15 e5 e2 hb3 HRUN HBW HBI
 have x0 : w3.cell? ⟨g, 0, none⟩ = some (.int .i64 u.d.d0) := HR3.out.in rfl
 have x1 : w3.cell? ⟨g, 1, none⟩ = some (.int .i64 u.d.d1) := HR3.out.in rfl
 have x2 : w3.cell? ⟨g, 2, none⟩ = some (.int .i64 u.d.d2) := HR3.out.in rfl
 have x3 : w3.cell? ⟨g, 3, none⟩ = some (.int .i64 u.d.d3) := HR3.out.in rfl
 cases fb with
 | true =>
  have HE2 : Hid ({ s with regs := s.regs.set ka rd } = stepM u.d x s ⟨5, (ka : Int), bb, imm⟩) := by
   rw [HE.out]
   have : (s.ov || !true) = s.ov := by simp
   rw [this]; exact Lib.hid rfl
  go_upto_region 4 with (go_at_call 40; (with_reducible refine (CFT.out _).mono ?_); rintro e1 w4 ⟨rfl, hb4⟩)
  have HR4 := Lib.hid (HR3.out.grow hb4)
  have HB4 := Lib.hid (HB3.out.trans (hb4.mono (by have := HB3.out.size; have := HH.out.old; omega)))
  have HBI := Lib.hid (HI3.out.keep hb4)
  clear hb4 HR3 HB3 HI3 x0 x1 x2 x3
  refine wp_region_grow8 (fun x => Nat.blt x 15) (fun _ => false) (fun w2 => Below w4.heap.size w4 w2) (fun a b => Below a.heap.size a b) (dF 0 [.v (.pointer (some ⟨g, 0, none⟩)), .v (.pointer (some ⟨g, 0, none⟩)), .v (.pointer (some ⟨g, 10, none⟩)), .v (.pointer (some ⟨g, 10, none⟩)), .v (.slice (some ⟨ga, 0, none⟩) 8 gc), .v (.pointer (some ⟨gi, 1, none⟩)), .v (.int .i64 (ka : Int)), .v (.pointer (some ⟨g, 0, none⟩)), .v (.pointer (some ⟨g, 0, none⟩)), .v (.pointer (some ⟨g, 0, none⟩)), .v (.pointer (some ⟨g, 0, none⟩)), .v (.agg #[.int .i64 u.d.d0, .int .i64 u.d.d1, .int .i64 u.d.d2, .int .i64 u.d.d3]), .v (.int .i64 V), .v (.int .i64 rd), .v (.pointer (some ⟨ga, ka, none⟩))]) (by kernel_rfl) (by kernel_rfl) (Below.drew (Below.refl _ _)) (fun a b h1 h2 => ⟨below_then h1 h2, fun i _ v => dF_keep h2 i v⟩) (fun w _ => Below.refl _ _) ?_ (fun j o _ _ h => by cases h) ?_
  ·refine ⟨?_, ?_, ?_, ?_, ?_, ?_, ?_, ?_, ?_, ?_, ?_, ?_, ?_, ?_, ?_, trivial⟩
   all_goals
    intro vs w5 hp hF
    have r5 := HR4.out.grow hp
    have b5 := HBI.out.keep (hp.mono (by have := HBI.out.1; exact Nat.le_refl _))
    have x10 : w5.cell? ⟨g, 10, none⟩ = some (.slice (some ⟨ga, 0, none⟩) 8 gc) := r5.in rfl
    obtain ⟨z0, z1, z2, z3⟩ := b5.c4
    have x0 : w5.cell? ⟨g, 0, none⟩ = some (.int .i64 u.d.d0) := r5.in rfl
    have x1 : w5.cell? ⟨g, 1, none⟩ = some (.int .i64 u.d.d1) := r5.in rfl
    have x2 : w5.cell? ⟨g, 2, none⟩ = some (.int .i64 u.d.d2) := r5.in rfl
    have x3 : w5.cell? ⟨g, 3, none⟩ = some (.int .i64 u.d.d3) := r5.in rfl
    have R5 := Lib.hid r5
    have HP5 := Lib.hid hp
    clear r5 b5 hp
    simp [depsB, Region.binds, dF] at hF
    simp [stL, depsB, Region.binds, Act.put, hF]
   all_goals first
    | (go_wp2_with fail; exact ⟨rfl, Below.refl _ _⟩)
    | (go_wp2_with (go_at_call 79; (with_reducible refine (CRD.out _).mono ?_); rintro e6 w6 ⟨rfl, hb6⟩); first | exact ⟨rfl, hb6⟩ | rfl)
  intro vs w5 hp hF
  have eT := hF 14 (by decide) rfl
  have eV := hF 13 (by decide) rfl
  replace eT : vs 14 = .pointer (some ⟨ga, ka, none⟩) := eT
  replace eV : vs 13 = .int .i64 rd := eV
  show wpList Tryd.prog _ _ [_] _ _
  simp [stL, Act.put, eT, eV]
  clear hF eT eV
  have r5 := HR4.out.grow hp
  have y2 : w5.cell? ⟨ga, ka, none⟩ = some (.int .i64 (s.regs.getD ka 0)) := own_getD r5.regs (by rw [HH.out.ok.st.rl]; exact ka8)
  have y3 := r5.regs.free ka
  have HR9 := Lib.hid (show RunAt z b (w5.setCell ⟨ga, ka, none⟩ (.int .i64 rd)) g ga ma gc mc hv u cy st x (stepM u.d x s ⟨5, (ka : Int), bb, imm⟩) from (HE2.out ▸ r5.reg (k := ka) (y := rd) ⟨by omega, by omega⟩))
  have HB9 := Lib.hid (below_set (k := ka) (u := .int .i64 rd) (HB4.out.trans (hp.mono (by have := HB4.out.size; have := HH.out.old; omega))) (r5.regs.block.1))
  have HBI9 := Lib.hid (Box.past (k := ka) (u := .int .i64 rd) (HBI.out.keep hp) (show ga ≠ gi from HNG.out.2.1))
  clear r5 hp
  generalize vs 0 = x09
  generalize vs 1 = x19
  generalize vs 2 = x29
  generalize vs 3 = x39
  generalize vs 4 = x49
  generalize vs 5 = x59
  generalize vs 6 = x69
  generalize vs 7 = x79
  generalize vs 8 = x89
  generalize vs 9 = x99
  generalize vs 10 = x109
  generalize vs 11 = x119
  generalize vs 12 = x129
  go_wp2_with fail
  go_end0
  exact RetOp.mk HR9.out HB9.out
 | false =>
  have HE2 : Hid ({ ({ s with ov := true } : Smp) with regs := s.regs.set ka rd } = stepM u.d x s ⟨5, (ka : Int), bb, imm⟩) := by
   rw [HE.out]
   have : (s.ov || !false) = true := by simp
   rw [this]; exact Lib.hid rfl
  go_upto_region 3 with (go_at_call 40; (with_reducible refine (CFT.out _).mono ?_); rintro e1 w4 ⟨rfl, hb4⟩)
  have HR4 := Lib.hid (HR3.out.grow hb4)
  have HB4 := Lib.hid (HB3.out.trans (hb4.mono (by have := HB3.out.size; have := HH.out.old; omega)))
  have HI4 := Lib.hid (HI3.out.keep hb4)
  clear hb4 HR3 HB3 HI3 x0 x1 x2 x3
  have x18 : w4.cell? ⟨g, 18, none⟩ = some (.bool s.ov) := HR4.out.in rfl
  have f18 := HR4.out.free 18
  go_upto_region 4 with fail
  have HR5 := Lib.hid (HR4.out.put (k := 18) (v := .bool true) (s' := { s with ov := true }) (cy' := cy) (st' := st) (x' := x) (by decide) rfl rfl rfl rfl)
  have HB5 := Lib.hid (below_set (k := 18) (u := .bool true) HB4.out HR4.out.hb)
  have HBI := Lib.hid (Box.past (k := 18) (u := .bool true) HI4.out HNG.out.1)
  clear HR4 HB4 HI4 x18 f18
  generalize w4.setCell ⟨g, 18, none⟩ (.bool true) = W5 at HR5 HB5 HBI ⊢
  refine wp_region_grow8 (fun x => Nat.blt x 15) (fun _ => false) (fun w2 => Below W5.heap.size W5 w2) (fun a b => Below a.heap.size a b) (dF 0 [.v (.pointer (some ⟨g, 0, none⟩)), .v (.pointer (some ⟨g, 0, none⟩)), .v (.pointer (some ⟨g, 10, none⟩)), .v (.pointer (some ⟨g, 10, none⟩)), .v (.slice (some ⟨ga, 0, none⟩) 8 gc), .v (.pointer (some ⟨gi, 1, none⟩)), .v (.int .i64 (ka : Int)), .v (.pointer (some ⟨g, 0, none⟩)), .v (.pointer (some ⟨g, 0, none⟩)), .v (.pointer (some ⟨g, 0, none⟩)), .v (.pointer (some ⟨g, 0, none⟩)), .v (.agg #[.int .i64 u.d.d0, .int .i64 u.d.d1, .int .i64 u.d.d2, .int .i64 u.d.d3]), .v (.int .i64 V), .v (.int .i64 rd), .v (.pointer (some ⟨ga, ka, none⟩))]) (by kernel_rfl) (by kernel_rfl) (Below.drew (Below.refl _ _)) (fun a b h1 h2 => ⟨below_then h1 h2, fun i _ v => dF_keep h2 i v⟩) (fun w _ => Below.refl _ _) ?_ (fun j o _ _ h => by cases h) ?_
  ·refine ⟨?_, ?_, ?_, ?_, ?_, ?_, ?_, ?_, ?_, ?_, ?_, ?_, ?_, ?_, ?_, trivial⟩
   all_goals
    intro vs w5 hp hF
    have r5 := HR5.out.grow hp
    have b5 := HBI.out.keep (hp.mono (by have := HBI.out.1; exact Nat.le_refl _))
    have x10 : w5.cell? ⟨g, 10, none⟩ = some (.slice (some ⟨ga, 0, none⟩) 8 gc) := r5.in rfl
    obtain ⟨z0, z1, z2, z3⟩ := b5.c4
    have x0 : w5.cell? ⟨g, 0, none⟩ = some (.int .i64 u.d.d0) := r5.in rfl
    have x1 : w5.cell? ⟨g, 1, none⟩ = some (.int .i64 u.d.d1) := r5.in rfl
    have x2 : w5.cell? ⟨g, 2, none⟩ = some (.int .i64 u.d.d2) := r5.in rfl
    have x3 : w5.cell? ⟨g, 3, none⟩ = some (.int .i64 u.d.d3) := r5.in rfl
    have R5 := Lib.hid r5
    have HP5 := Lib.hid hp
    clear r5 b5 hp
    simp [depsB, Region.binds, dF] at hF
    simp [stL, depsB, Region.binds, Act.put, hF]
   all_goals first
    | (go_wp2_with fail; exact ⟨rfl, Below.refl _ _⟩)
    | (go_wp2_with (go_at_call 79; (with_reducible refine (CRD.out _).mono ?_); rintro e6 w6 ⟨rfl, hb6⟩); first | exact ⟨rfl, hb6⟩ | rfl)
  intro vs w5 hp hF
  have eT := hF 14 (by decide) rfl
  have eV := hF 13 (by decide) rfl
  replace eT : vs 14 = .pointer (some ⟨ga, ka, none⟩) := eT
  replace eV : vs 13 = .int .i64 rd := eV
  show wpList Tryd.prog _ _ [_] _ _
  simp [stL, Act.put, eT, eV]
  clear hF eT eV
  have r5 := HR5.out.grow hp
  have y2 : w5.cell? ⟨ga, ka, none⟩ = some (.int .i64 (s.regs.getD ka 0)) := own_getD r5.regs (by rw [HH.out.ok.st.rl]; exact ka8)
  have y3 := r5.regs.free ka
  have HR9 := Lib.hid (show RunAt z b (w5.setCell ⟨ga, ka, none⟩ (.int .i64 rd)) g ga ma gc mc hv u cy st x (stepM u.d x s ⟨5, (ka : Int), bb, imm⟩) from (HE2.out ▸ r5.reg (k := ka) (y := rd) ⟨by omega, by omega⟩))
  have HB9 := Lib.hid (below_set (k := ka) (u := .int .i64 rd) (HB5.out.trans (hp.mono (by have := HB5.out.size; have := HH.out.old; omega))) (r5.regs.block.1))
  have HBI9 := Lib.hid (Box.past (k := ka) (u := .int .i64 rd) (HBI.out.keep hp) (show ga ≠ gi from HNG.out.2.1))
  clear r5 hp
  generalize vs 0 = x09
  generalize vs 1 = x19
  generalize vs 2 = x29
  generalize vs 3 = x39
  generalize vs 4 = x49
  generalize vs 5 = x59
  generalize vs 6 = x69
  generalize vs 7 = x79
  generalize vs 8 = x89
  generalize vs 9 = x99
  generalize vs 10 = x109
  generalize vs 11 = x119
  generalize vs 12 = x129
  go_wp2_with fail
  go_end0
  exact RetOp.mk HR9.out HB9.out
set_option maxRecDepth 100000 in
set_option maxHeartbeats 4000000 in
theorem op_8 {z : Outs} {b : Nat} {w0 w : World} {g ga ma gc mc : Nat} {hv : Value} {u : PrgA} {cy st x : Int} {s : Smp} {a bb imm : Int} (h : OpIn z b w0 w g ga ma gc mc hv u cy st x s ⟨8, a, bb, imm⟩) :
  Calls Tryd.prog 96 #[.pointer (some ⟨g, 0, none⟩), .agg #[.int .i64 8, .int .i64 a, .int .i64 bb, .int .i64 imm]] w (RetOp z b w0 w g ga ma gc mc hv u cy st x (stepM u.d x s ⟨8, a, bb, imm⟩)) := by
 obtain ⟨f1, f2, f3, f4, f5⟩ := fld_reg (suit_formed h.suit)
 have hbw : b ≤ w.heap.size := by have := h.bel.size; have := h.old; omega
 have HH := Lib.hid h
 simp only at f1 f2 f3 f4 f5
 obtain ⟨ra0, ra1, ra2⟩ := suit_ring h.suit (.inr rfl)
 simp only at ra0 ra1 ra2
 obtain ⟨ka, rfl⟩ := Int.eq_ofNat_of_zero_le ra0
 have ka8 : ka < u.d.rg.length := by omega
 have khl : ka < s.heads.length := by rw [h.ok.st.hl]; exact ka8
 have hhr := headsB_at h.ok.st.hw khl
 obtain ⟨ha, hc, hhe⟩ := own_some h.run.heads (by omega)
 obtain ⟨hn, hhn⟩ : ∃ n, s.heads.length = n := ⟨_, rfl⟩
 rw [hhn] at hhe khl
 subst hhe
 have HHN := Lib.hid hhn
 have hcb : (ka : Int) < (hn : Int) := by omega
 clear hhn
 obtain ⟨rb0, rb1⟩ := f2 (by simp)
 obtain ⟨kb, rfl⟩ := Int.eq_ofNat_of_zero_le rb0
 have kb8 : kb < 8 := by omega
 have hrin := ringIn_iff.1 (valid_ring h.val ka8)
 obtain ⟨⟨xb, xl⟩, hxr⟩ : ∃ x, u.d.rg[ka]? = some x := ⟨_, List.getElem?_eq_getElem ka8⟩
 have hgx : u.d.rg.getD ka (0, 0) = (xb, xl) := by rw [List.getD_eq_getElem?_getD, hxr]; rfl
 have hra : rgA u.d (ka : Int) = (xb, xl) := hgx
 rw [hgx] at hrin hhr
 simp only at hrin hhr
 obtain ⟨hd, hhd⟩ : ∃ v, s.heads.getD ka 0 = v := ⟨_, rfl⟩
 rw [hhd] at hhr
 obtain ⟨h2, hh2⟩ : ∃ v, (hd + xl - 1) % xl = v := ⟨_, rfl⟩
 have e1 := Int.emod_nonneg (hd + xl - 1) (show xl ≠ 0 by omega)
 have e2 := Int.emod_lt_of_pos (hd + xl - 1) (show 0 < xl by omega)
 rw [hh2] at e1 e2
 have htm : (hd + xl - 1).tmod xl = h2 := by rw [Int.tmod_eq_emod_of_nonneg (by omega)]; exact hh2
 obtain ⟨-, -, pl0, pl1⟩ := plc_in h.val (hs := s.heads.set ka h2) (a := (ka : Int)) (b := 0) ra0 ra1
 obtain ⟨pn, hpn⟩ := Int.eq_ofNat_of_zero_le pl0
 rw [hpn] at pl1
 have pn8 : pn < 128 := by omega
 have hge : (s.heads.set ka h2).getD ka 0 = h2 := by rw [List.getD_eq_getElem?_getD, List.getElem?_set_self (by rw [h.ok.st.hl]; exact ka8)]; rfl
 have HHR : Hid (0 ≤ (s.heads.set ka h2).getD ka 0 ∧ (s.heads.set ka h2).getD ka 0 < (u.d.rg.getD ka (0, 0)).2) := by rw [hge, hgx]; exact Lib.hid ⟨e1, e2⟩
 have HSL : Hid ((s.heads.set ka h2).length = hn) := by rw [List.length_set]; exact HHN
 have HPN := Lib.hid hpn
 have HKA := Lib.hid ka8
 have HGX := Lib.hid hxr
 obtain ⟨rv, hrv⟩ : ∃ v, s.regs.getD kb 0 = v := ⟨_, rfl⟩
 have rvb := fitD_bound (wordD_at h.ok.st.rw (k := kb) (by rw [h.ok.st.rl]; exact kb8))
 rw [hrv] at rvb
 have Hrv := Lib.hid hrv
 clear hrv
 have HE : Hid ({ ({ s with heads := s.heads.set ka h2 } : Smp) with mem := s.mem.set pn rv } = stepM u.d x s ⟨8, (ka : Int), (kb : Int), imm⟩) := by
  show Hid (_ = ({ s with heads := s.heads.set ka ((s.heads.getD ka 0 + (rgA u.d (ka : Int)).2 - 1) % (rgA u.d (ka : Int)).2), mem := s.mem.set (plc u.d (s.heads.set ka ((s.heads.getD ka 0 + (rgA u.d (ka : Int)).2 - 1) % (rgA u.d (ka : Int)).2)) (ka : Int) 0).toNat (s.regs.getD kb 0) } : Smp))
  rw [hra, hhd, Hrv.out]
  show Hid (_ = ({ s with heads := s.heads.set ka ((hd + xl - 1) % xl), mem := s.mem.set (plc u.d (s.heads.set ka ((hd + xl - 1) % xl)) (ka : Int) 0).toNat rv } : Smp))
  rw [hh2, hpn]
  exact Lib.hid rfl
 have HHD := Lib.hid hhd
 obtain ⟨rn, hrn⟩ : ∃ n, u.d.rg.length = n := ⟨_, rfl⟩
 have HRN := Lib.hid hrn
 have k4 : (ka : Int) < (rn : Int) := by omega
 have k0 : (0 : Int) ≤ (pn : Int) := by omega
 have k1 : (pn : Int) < 128 := by omega
 have k2 : (0 : Int) ≤ (kb : Int) := by omega
 have k3 : (kb : Int) < 8 := by omega
 have hx0 : ¬ xl = 0 := by omega
 have hx1 : (xl == 0) = false := by simpa using hx0
 obtain ⟨s1, hs1⟩ : ∃ v, hd + xl = v := ⟨_, rfl⟩
 obtain ⟨s2, hs2⟩ : ∃ v, s1 - 1 = v := ⟨_, rfl⟩
 have ws1 : IntKind.i64.wrap (hd + xl) = s1 := (IntWalk.i64_in _ (by omega)).trans hs1
 have ws2 : IntKind.i64.wrap (s1 - 1) = s2 := (IntWalk.i64_in _ (by omega)).trans hs2
 rw [hs1, hs2] at htm
 have hs2b : 0 ≤ s2 := by omega
 have hxlb : 0 < xl := by omega
 clear hhd hhr hh2 hpn hge hgx hra hxr rb0 rb1 pl0 ra2 hrn hs1 hs2
 clear h f1 f2 f3 f4 f5
 go_enter Tryd.func96, Tryd.ntmps96
 go_upto_region 1 with fail
 obtain ⟨bi, hb0⟩ := entryJ w ⟨8, (ka : Int), (kb : Int), imm⟩ _ rfl
 change Code.wp _ _ _ _ (w.alloc (.cells (Ins.cells ⟨8, (ka : Int), (kb : Int), imm⟩).toArray 109))
 generalize (w.alloc (.cells (Ins.cells ⟨8, (ka : Int), (kb : Int), imm⟩).toArray 109)) = W0 at bi hb0 ⊢
 have HRUN := Lib.hid (HH.out.run.grow hb0)
 have HBI := Lib.hid bi
 have HBW := Lib.hid (HH.out.bel.trans (hb0.mono hbw))
 clear bi hb0
 generalize hgi : w.heap.size = gi at HBI ⊢
 have HGI := Lib.hid hgi
 clear hgi
 have HNG : Hid (g ≠ gi ∧ ga ≠ gi ∧ ma ≠ gi ∧ ha ≠ gi) := by
  have q1 := HH.out.run.box.1
  have q2 := (HH.out.run.regs.block).2
  have q3 := (HH.out.run.mem.block).2
  have q4 := (HH.out.run.heads.block).2
  exact Lib.hid ⟨by rw [← HGI.out]; omega, by rw [← HGI.out]; omega, by rw [← HGI.out]; omega, by rw [← HGI.out]; omega⟩
 have e8 := HRUN.out.box.ext (k := 8) (v := .slice u.RA rn u.rc) (by rw [← HRN.out]; rfl)
 have ei := HBI.out.ext (k := 1) (v := .int .i64 (ka : Int)) rfl
 obtain ⟨ad, hA, -, el, -, -⟩ := ring_ext (HH.out.ring HBW.out) HGX.out
 rw [hA] at e8
 simp only at el
 clear hA
 refine wp_region_ext (by kernel_rfl) (by kernel_rfl) ?_
 repeat (go_big_quiet_step (fail))
 refine wpQuiet_nil ?_
 rintro W1 ⟨⟨_, hb3⟩, rfl⟩
 have HR1 := Lib.hid (HRUN.out.grow hb3)
 have HB1 := Lib.hid (HBW.out.trans (hb3.mono (by have := HBW.out.size; have := HH.out.old; omega)))
 have HBI := Lib.hid (HBI.out.keep hb3)
 clear e8 ei el hb3 HRUN HBW
 go_upto_region 2 with fail
 refine wp_region_grow8 (fun x => Nat.blt x 22) (fun _ => false) (fun w2 => Below W1.heap.size W1 w2) (fun a b => Below a.heap.size a b) (dF 0 [.v (.pointer (some ⟨g, 0, none⟩)), .v (.pointer (some ⟨g, 0, none⟩)), .v (.pointer (some ⟨g, 10, none⟩)), .v (.pointer (some ⟨g, 12, none⟩)), .v (.slice (some ⟨ha, 0, none⟩) hn hc), .v (.pointer (some ⟨gi, 1, none⟩)), .v (.int .i64 (ka : Int)), .v (.pointer (some ⟨g, 0, none⟩)), .v (.pointer (some ⟨g, 0, none⟩)), .v (.pointer (some ⟨g, 10, none⟩)), .v (.pointer (some ⟨g, 12, none⟩)), .v (.slice (some ⟨ha, 0, none⟩) hn hc), .v (.pointer (some ⟨gi, 1, none⟩)), .v (.int .i64 (ka : Int)), .v (.pointer (some ⟨ha, ka, none⟩)), .v (.int .i64 hd), .v (.int .i64 xl), .v (.int .i64 s1), .v (.int .i64 s2), .v (.int .i64 xl), .v (.int .i64 h2), .v (.pointer (some ⟨ha, ka, none⟩))]) (by kernel_rfl) (by kernel_rfl) (Below.drew (Below.refl _ _)) (fun a b h1 h2 => ⟨below_then h1 h2, fun i _ v => dF_keep h2 i v⟩) (fun w _ => Below.refl _ _) ?_ (fun j o _ _ h => by cases h) ?_
 ·refine ⟨?_, ?_, ?_, ?_, ?_, ?_, ?_, ?_, ?_, ?_, ?_, ?_, ?_, ?_, ?_, ?_, ?_, ?_, ?_, ?_, ?_, ?_, trivial⟩
  all_goals
   intro vs w5 hp hF
   have r5 := HR1.out.grow hp
   have b5 := HBI.out.keep (hp.mono (by have := HBI.out.1; exact Nat.le_refl _))
   have x12 : w5.cell? ⟨g, 12, none⟩ = some (.slice (some ⟨ha, 0, none⟩) hn hc) := r5.in rfl
   obtain ⟨z0, z1, z2, z3⟩ := b5.c4
   have y1 : w5.cell? ⟨ha, ka, none⟩ = some (.int .i64 hd) := by rw [← HHD.out]; exact own_getD r5.heads (by rw [HHN.out]; exact khl)
   have R5 := Lib.hid r5
   have HP5 := Lib.hid hp
   clear r5 b5 hp
   simp [depsB, Region.binds, dF] at hF
   simp [stL, depsB, Region.binds, Act.put, hF]
  all_goals first
   | (go_wp2_with fail; exact ⟨rfl, Below.refl _ _⟩)
   | (go_wp2_with fail; rfl)
 intro vs w5 hp hF
 have eT := hF 21 (by decide) rfl
 have eV := hF 20 (by decide) rfl
 replace eT : vs 21 = .pointer (some ⟨ha, ka, none⟩) := eT
 replace eV : vs 20 = .int .i64 h2 := eV
 show wpList Tryd.prog _ _ [_] _ _
 simp [stL, Act.put, eT, eV]
 clear hF eT eV
 have r5 := HR1.out.grow hp
 have y2 : w5.cell? ⟨ha, ka, none⟩ = some (.int .i64 hd) := by rw [← HHD.out]; exact own_getD r5.heads (by rw [HHN.out]; exact khl)
 have y3 := r5.heads.free ka
 have HR6 := Lib.hid (r5.head (k := ka) (y := h2) ⟨by omega, by omega⟩)
 have HB6 := Lib.hid (below_set (k := ka) (u := .int .i64 h2) (HB1.out.trans (hp.mono (by have := HB1.out.size; have := HH.out.old; omega))) (r5.heads.block.1))
 have HBI6 := Lib.hid (Box.past (k := ka) (u := .int .i64 h2) (HBI.out.keep hp) (show ha ≠ gi from HNG.out.2.2.2))
 clear r5 hp
 generalize vs 0 = x06
 generalize vs 1 = x16
 generalize vs 2 = x26
 generalize vs 3 = x36
 generalize vs 4 = x46
 generalize vs 5 = x56
 generalize vs 6 = x66
 generalize vs 7 = x76
 generalize vs 8 = x86
 generalize vs 9 = x96
 generalize vs 10 = x106
 generalize vs 11 = x116
 generalize vs 12 = x126
 generalize vs 13 = x136
 generalize vs 14 = x146
 generalize vs 15 = x156
 generalize vs 16 = x166
 generalize vs 17 = x176
 generalize vs 18 = x186
 generalize vs 19 = x196
 go_upto_region 3 with fail
 clear HBI
 have HBI := HBI6
 have y2 := HR6.out
 clear y2 y3
 generalize w5.setCell ⟨ha, ka, none⟩ (.int .i64 h2) = W0 at HR6 HB6 HBI ⊢
 have HRUN := HR6
 have HBW := HB6
 have CP : Hid (∀ w1, Below W0.heap.size W0 w1 → Calls Tryd.prog 92 #[.agg u.lst.toArray, .agg #[.slice (some ⟨ga, 0, none⟩) 8 gc, .slice (some ⟨ma, 0, none⟩) 128 mc, .slice (some ⟨ha, 0, none⟩) hn hc, .int .i64 cy, .int .i64 st], .int .i64 (ka : Int), .int .i64 0] w1 fun e w' => e = .returned (.int .i64 (pn : Int)) ∧ Below w1.heap.size w1 w') := Lib.hid fun w1 hb => by
  rw [← HPN.out]
  exact sm_place u _ _ _ 8 gc 128 mc hn hc ka (s.heads.set ka h2) cy st 0 w1 (HH.out.ring (HBW.out.trans (hb.mono (by have := HBW.out.size; have := HH.out.old; omega)))) HH.out.val (HRUN.out.grow hb).heads.ints HSL.out HKA.out khl HHR.out (by omega)
 refine wp_region_grow8 (fun x => Nat.blt x 26) (fun _ => false) (fun w2 => Below W0.heap.size W0 w2) (fun a b => Below a.heap.size a b) (dF 0 [.v (.pointer (some ⟨g, 0, none⟩)), .v (.pointer (some ⟨g, 0, none⟩)), .v (.pointer (some ⟨g, 10, none⟩)), .v (.pointer (some ⟨g, 11, none⟩)), .v (.slice (some ⟨ma, 0, none⟩) 128 mc), .v (.pointer (some ⟨g, 0, none⟩)), .v (.pointer (some ⟨g, 0, none⟩)), .v (.pointer (some ⟨g, 0, none⟩)), .v (.agg u.lst.toArray), .v (.pointer (some ⟨g, 0, none⟩)), .v (.pointer (some ⟨g, 0, none⟩)), .v (.pointer (some ⟨g, 10, none⟩)), .v (.agg #[.slice (some ⟨ga, 0, none⟩) 8 gc, .slice (some ⟨ma, 0, none⟩) 128 mc, .slice (some ⟨ha, 0, none⟩) hn hc, .int .i64 cy, .int .i64 st]), .v (.pointer (some ⟨gi, 1, none⟩)), .v (.int .i64 (ka : Int)), .v (.int .i64 (pn : Int)), .v (.pointer (some ⟨g, 0, none⟩)), .v (.pointer (some ⟨g, 0, none⟩)), .v (.pointer (some ⟨g, 10, none⟩)), .v (.pointer (some ⟨g, 10, none⟩)), .v (.slice (some ⟨ga, 0, none⟩) 8 gc), .v (.pointer (some ⟨gi, 2, none⟩)), .v (.int .i64 (kb : Int)), .v (.pointer (some ⟨ga, kb, none⟩)), .v (.int .i64 rv), .v (.pointer (some ⟨ma, pn, none⟩))]) (by kernel_rfl) (by kernel_rfl) (Below.drew (Below.refl _ _)) (fun a b h1 h2 => ⟨below_then h1 h2, fun i _ v => dF_keep h2 i v⟩) (fun w _ => Below.refl _ _) ?_ (fun j o _ _ h => by cases h) ?_
 ·refine ⟨?_, ?_, ?_, ?_, ?_, ?_, ?_, ?_, ?_, ?_, ?_, ?_, ?_, ?_, ?_, ?_, ?_, ?_, ?_, ?_, ?_, ?_, ?_, ?_, ?_, ?_, trivial⟩
  all_goals
   intro vs w5 hp hF
   have r5 := HRUN.out.grow hp
   have b5 := HBI.out.keep (hp.mono (by have := HBI.out.1; exact Nat.le_refl _))
   have x10 : w5.cell? ⟨g, 10, none⟩ = some (.slice (some ⟨ga, 0, none⟩) 8 gc) := r5.in rfl
   have x11 : w5.cell? ⟨g, 11, none⟩ = some (.slice (some ⟨ma, 0, none⟩) 128 mc) := r5.in rfl
   obtain ⟨z0, z1, z2, z3⟩ := b5.c4
   have y1 : w5.cell? ⟨ga, kb, none⟩ = some (.int .i64 rv) := by rw [← Hrv.out]; exact own_getD r5.regs (by rw [HH.out.ok.st.rl]; exact kb8)
   have R5 := Lib.hid r5
   have HP5 := Lib.hid hp
   clear r5 b5 hp
   simp [depsB, Region.binds, dF] at hF
   simp [stL, depsB, Region.binds, Act.put, hF]
  all_goals first
   | (go_wp2_with fail; exact ⟨rfl, Below.refl _ _⟩)
   | (refine ld_prgR R5.out rfl _ rfl rfl ?_; refine wpList_nil ?_; exact ⟨rfl, _, rfl, rfl, Below.refl _ _⟩)
   | (refine ld_macR R5.out rfl _ rfl rfl ?_; refine wpList_nil ?_; exact ⟨rfl, _, rfl, rfl, Below.refl _ _⟩)
   | (go_wp2_with (go_at_call 92; (with_reducible refine (CP.out _ HP5.out).mono ?_); rintro e6 w6 ⟨rfl, hb6⟩); first | exact ⟨rfl, hb6⟩ | rfl)
 intro vs w5 hp hF
 have eT := hF 25 (by decide) rfl
 have eV := hF 24 (by decide) rfl
 replace eT : vs 25 = .pointer (some ⟨ma, pn, none⟩) := eT
 replace eV : vs 24 = .int .i64 rv := eV
 show wpList Tryd.prog _ _ [_] _ _
 simp [stL, Act.put, eT, eV]
 clear hF eT eV
 have r5 := HRUN.out.grow hp
 have y2 : w5.cell? ⟨ma, pn, none⟩ = some (.int .i64 (s.mem.getD pn 0)) := own_getD r5.mem (by rw [HH.out.ok.st.ml]; exact pn8)
 have y3 := r5.mem.free pn
 have HR9 := Lib.hid (show RunAt z b (w5.setCell ⟨ma, pn, none⟩ (.int .i64 rv)) g ga ma gc mc (.slice (some ⟨ha, 0, none⟩) hn hc) u cy st x (stepM u.d x s ⟨8, (ka : Int), (kb : Int), imm⟩) from (HE.out ▸ r5.memw (k := pn) (y := rv) ⟨by omega, by omega⟩))
 have HB9 := Lib.hid (below_set (k := pn) (u := .int .i64 rv) (HBW.out.trans (hp.mono (by have := HBW.out.size; have := HH.out.old; omega))) (r5.mem.block.1))
 have HBI9 := Lib.hid (Box.past (k := pn) (u := .int .i64 rv) (HBI.out.keep hp) (show ma ≠ gi from HNG.out.2.2.1))
 clear r5 hp
 generalize vs 0 = x09
 generalize vs 1 = x19
 generalize vs 2 = x29
 generalize vs 3 = x39
 generalize vs 4 = x49
 generalize vs 5 = x59
 generalize vs 6 = x69
 generalize vs 7 = x79
 generalize vs 8 = x89
 generalize vs 9 = x99
 generalize vs 10 = x109
 generalize vs 11 = x119
 generalize vs 12 = x129
 generalize vs 13 = x139
 generalize vs 14 = x149
 generalize vs 15 = x159
 generalize vs 16 = x169
 generalize vs 17 = x179
 generalize vs 18 = x189
 generalize vs 19 = x199
 generalize vs 20 = x209
 generalize vs 21 = x219
 generalize vs 22 = x229
 generalize vs 23 = x239
 go_wp2_with fail
 go_end0
 exact RetOp.mk HR9.out HB9.out
end Go.Proofs.YtdiflpbioohddaaDoor
