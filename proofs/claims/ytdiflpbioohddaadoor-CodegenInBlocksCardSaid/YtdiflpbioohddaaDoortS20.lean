/- Independent instructions can be exchanged: an order that keeps every dependency computes the same. No walk. -/
import Derived.Test.YtdiflpbioohddaaDoortU5toS3
import Derived.Test.YtdiflpbioohddaaDoortE19toOn
set_option linter.unusedVariables false
set_option linter.unusedSimpArgs false
namespace Go.Proofs.YtdiflpbioohddaaDoor
open Go.RowKit
def valS (d : PrgD) (x : Int) (i : Ins) (s : Smp) : Int :=
 if i.op = 2 then s.regs.getD i.a.toNat 0 * i.imm else if i.op = 3 then s.mem.getD i.a.toNat 0 * i.imm else if i.op = 4 then s.mem.getD (plc d s.heads i.a i.b).toNat 0 * i.imm
 else if i.op = 5 then s.sum else if i.op = 6 then s.mem.getD i.b.toNat 0 else if i.op = 7 then s.regs.getD i.a.toNat 0 else if i.op = 8 then s.regs.getD i.b.toNat 0
 else if i.op = 9 then x else if i.op = 10 then s.regs.getD i.a.toNat 0 else if i.op = 11 then s.regs.getD i.b.toNat 0 else 0
def hdS (d : PrgD) (i : Ins) (s : Smp) : Int := (s.heads.getD i.a.toNat 0 + (rgA d i.a).2 - 1) % (rgA d i.a).2
def plS (d : PrgD) (i : Ins) (s : Smp) : Int := plc d (s.heads.set i.a.toNat (hdS d i s)) i.a 0
def updS (d : PrgD) (i : Ins) (v : Int) (s : Smp) : Smp where
 regs := if i.op = 5 then s.regs.set i.a.toNat (redD d (shD d v)) else if i.op = 6 ∨ i.op = 9 ∨ i.op = 11 then s.regs.set i.a.toNat v else s.regs
 mem := if i.op = 7 then s.mem.set i.b.toNat v else if i.op = 8 then s.mem.set (plS d i s).toNat v else s.mem
 heads := if i.op = 8 then s.heads.set i.a.toNat (hdS d i s) else s.heads
 sum := if i.op = 1 then 0 else if i.op = 2 ∨ i.op = 3 ∨ i.op = 4 then wrap64 (s.sum + v) else s.sum
 out := if i.op = 10 then v else s.out
 ov := if i.op = 5 then s.ov || !fitD d (shD d v) else s.ov
theorem ops12 {i : Ins} (hf : i.formed = true) : i.op = 0 ∨ i.op = 1 ∨ i.op = 2 ∨ i.op = 3 ∨ i.op = 4 ∨ i.op = 5 ∨ i.op = 6 ∨ i.op = 7 ∨ i.op = 8 ∨ i.op = 9 ∨ i.op = 10 ∨ i.op = 11 := by
 obtain ⟨h, -, -, -⟩ := formed_parts hf
 omega
theorem step_upd {d : PrgD} {x : Int} {s : Smp} {i : Ins} (hf : i.formed = true) : stepM d x s i = updS d i (valS d x i s) s := by
 have hc := ops12 hf
 obtain ⟨op, a, b, imm⟩ := i
 simp only at hc
 rcases hc with rfl | rfl | rfl | rfl | rfl | rfl | rfl | rfl | rfl | rfl | rfl | rfl <;> simp [stepM, updS, valS, hdS, plS]
theorem suit_formed {d : PrgD} {i : Ins} (h : suitB d i = true) : i.formed = true := by unfold suitB at h; exact (Bool.and_eq_true_iff.1 h).1
theorem suit_used {d : PrgD} {i : Ins} (h : suitB d i = true) : (i.op = 3 → usdB d.rg i.a = false) ∧ (i.op = 6 ∨ i.op = 7 → usdB d.rg i.b = false) := by
 unfold suitB at h
 rw [Bool.and_eq_true] at h
 obtain ⟨-, h⟩ := h
 unfold fitI at h
 rw [Bool.and_eq_true] at h
 obtain ⟨h, -⟩ := h
 refine ⟨fun e => ?_, fun e => ?_⟩
 ·rw [if_neg (by omega), if_neg (by omega), if_pos e] at h
  simpa using h
 ·rw [if_neg (by omega), if_neg (by omega), if_neg (by omega), if_pos e] at h
  simpa using h
theorem fld_reg {i : Ins} (hf : i.formed = true) : (i.op = 2 ∨ i.op = 5 ∨ i.op = 6 ∨ i.op = 7 ∨ i.op = 9 ∨ i.op = 10 ∨ i.op = 11 → 0 ≤ i.a ∧ i.a < 8) ∧ (i.op = 8 ∨ i.op = 11 → 0 ≤ i.b ∧ i.b < 8) ∧ (i.op = 4 ∨ i.op = 8 → 0 ≤ i.a ∧ i.a < 8) ∧ (i.op = 3 → 0 ≤ i.a ∧ i.a < 128) ∧ (i.op = 6 ∨ i.op = 7 → 0 ≤ i.b ∧ i.b < 128) := by
 have hc := ops12 hf
 obtain ⟨op, a, b, imm⟩ := i
 unfold Ins.formed at hf
 simp only [Bool.and_eq_true] at hf
 simp only at hc hf ⊢
 rcases hc with rfl | rfl | rfl | rfl | rfl | rfl | rfl | rfl | rfl | rfl | rfl | rfl <;> simp [kA, kB, kC, fitsK] at hf ⊢ <;> omega
theorem wt_of {i : Ins} (hf : i.formed = true) : (i.op = 1 ∨ i.op = 2 ∨ i.op = 3 ∨ i.op = 4 → i.wt = [8]) ∧ (i.op = 5 ∨ i.op = 6 ∨ i.op = 9 ∨ i.op = 11 → i.wt = [i.a]) ∧ (i.op = 7 → i.wt = [100 + i.b]) ∧ (i.op = 8 → i.wt = [20 + i.a]) ∧ (i.op = 10 → i.wt = [10]) := by
 have hc := ops12 hf
 unfold Ins.wt
 rw [if_pos hf]
 obtain ⟨op, a, b, imm⟩ := i
 simp only at hc ⊢
 rcases hc with rfl | rfl | rfl | rfl | rfl | rfl | rfl | rfl | rfl | rfl | rfl | rfl <;> simp
theorem rd_of {i : Ins} (hf : i.formed = true) : (i.op = 2 → i.rd = [i.a, 8]) ∧ (i.op = 3 → i.rd = [8, 100 + i.a]) ∧ (i.op = 4 → i.rd = [8, 20 + i.a]) ∧ (i.op = 5 → i.rd = [8]) ∧ (i.op = 6 → i.rd = [100 + i.b]) ∧ (i.op = 7 → i.rd = [i.a]) ∧ (i.op = 8 → i.rd = [i.b, 20 + i.a]) ∧ (i.op = 10 → i.rd = [i.a]) ∧ (i.op = 11 → i.rd = [i.b]) := by
 have hc := ops12 hf
 unfold Ins.rd
 rw [if_pos hf]
 obtain ⟨op, a, b, imm⟩ := i
 simp only at hc ⊢
 rcases hc with rfl | rfl | rfl | rfl | rfl | rfl | rfl | rfl | rfl | rfl | rfl | rfl <;> simp
theorem ringsK_apart {rg : List (Int × Int)} : ∀ {n : Nat}, ringsK rg n = true → n ≤ rg.length → ∀ {k j : Nat}, j < k → k < n → ∀ {m : Int}, inR m (rg.getD k (0, 0)) = true → inR m (rg.getD j (0, 0)) = true → False
 | 0, _, _, k, j, _, hk, _, _, _ => by omega
 | n + 1, h, hn, k, j, hj, hk, m, h1, h2 => by
  unfold ringsK at h
  simp only [Bool.and_eq_true] at h
  by_cases e : k = n
  ·subst e
   have h3 := h.2.2
   rw [Bool.not_eq_true', Bool.eq_false_iff] at h3
   refine h3 (List.any_eq_true.2 ⟨rg.getD j (0, 0), ?_, ?_⟩)
   ·rw [List.getD_eq_getElem?_getD, List.getElem?_eq_getElem (show j < rg.length by omega)]
    show rg[j] ∈ _
    rw [List.mem_take_iff_getElem]
    exact ⟨j, by omega, rfl⟩
   ·rw [inR_iff] at h1 h2
    rw [clash_iff]; omega
  ·exact ringsK_apart h.1 (by omega) hj (by omega) h1 h2
theorem rings_apart {d : PrgD} (hv : validB d = true) {a a' m : Int} (h0 : 0 ≤ a ∧ a < d.rg.length) (h1 : 0 ≤ a' ∧ a' < d.rg.length) (hm : (rgA d a).1 ≤ m ∧ m < (rgA d a).1 + (rgA d a).2) (hm' : (rgA d a').1 ≤ m ∧ m < (rgA d a').1 + (rgA d a').2) : a = a' := by
 obtain ⟨-, h2, -, -⟩ := valid_parts hv
 unfold ringsB at h2
 rw [Bool.and_eq_true] at h2
 have q1 : inR m (d.rg.getD a.toNat (0, 0)) = true := inR_iff.2 hm
 have q2 : inR m (d.rg.getD a'.toNat (0, 0)) = true := inR_iff.2 hm'
 rcases Nat.lt_trichotomy a.toNat a'.toNat with h | h | h
 ·exact (ringsK_apart h2.2 (Nat.le_refl _) h (by omega) q2 q1).elim
 ·omega
 ·exact (ringsK_apart h2.2 (Nat.le_refl _) h (by omega) q1 q2).elim
theorem ring_used {d : PrgD} {a m : Int} (h0 : 0 ≤ a ∧ a < d.rg.length) (hm : (rgA d a).1 ≤ m ∧ m < (rgA d a).1 + (rgA d a).2) : usdB d.rg m = true := by
 refine List.any_eq_true.2 ⟨rgA d a, ?_, inR_iff.2 hm⟩
 unfold rgA
 rw [List.getD_eq_getElem?_getD, List.getElem?_eq_getElem (show a.toNat < d.rg.length by omega)]
 exact List.getElem_mem _
section
variable {d : PrgD} {i : Ins} {v : Int} {s : Smp}
theorem plS_in (hv : validB d = true) (hi : suitB d i = true) (ho : i.op = 8) : (0 ≤ i.a ∧ i.a < d.rg.length) ∧ ((rgA d i.a).1 ≤ plS d i s ∧ plS d i s < (rgA d i.a).1 + (rgA d i.a).2) ∧ 0 ≤ plS d i s := by
 obtain ⟨h0, h1, -⟩ := suit_ring hi (.inr ho)
 obtain ⟨h2, h3, h4, -⟩ := plc_in hv (hs := s.heads.set i.a.toNat (hdS d i s)) (b := 0) h0 h1
 exact ⟨⟨h0, h1⟩, ⟨h2, h3⟩, h4⟩
theorem regs_st (hi : suitB d i = true) {k : Int} (h0 : 0 ≤ k) (hw : k ∉ i.wt) : (updS d i v s).regs.getD k.toNat 0 = s.regs.getD k.toNat 0 := by
 have hf := suit_formed hi
 obtain ⟨-, w2, -, -, -⟩ := wt_of hf
 obtain ⟨f1, -, -, -, -⟩ := fld_reg hf
 unfold updS
 simp only
 split
 ·rename_i h
  rw [w2 (by omega), List.mem_singleton] at hw
  have := f1 (by omega)
  rw [getD_set_other (by omega)]
 ·split
  ·rename_i h
   rw [w2 (by omega), List.mem_singleton] at hw
   have := f1 (by omega)
   rw [getD_set_other (by omega)]
  ·rfl
theorem sum_st (hi : suitB d i = true) (hw : (8 : Int) ∉ i.wt) : (updS d i v s).sum = s.sum := by
 have hf := suit_formed hi
 obtain ⟨w1, -, -, -, -⟩ := wt_of hf
 unfold updS
 simp only
 split
 ·rename_i h
  rw [w1 (by omega), List.mem_singleton] at hw
  exact absurd rfl hw
 ·split
  ·rename_i h
   rw [w1 (by omega), List.mem_singleton] at hw
   exact absurd rfl hw
  ·rfl
theorem mem_st (hv : validB d = true) (hi : suitB d i = true) {m : Int} (h0 : 0 ≤ m) (hu : usdB d.rg m = false) (hw : 100 + m ∉ i.wt) : (updS d i v s).mem.getD m.toNat 0 = s.mem.getD m.toNat 0 := by
 have hf := suit_formed hi
 obtain ⟨-, -, w3, -, -⟩ := wt_of hf
 obtain ⟨-, -, -, -, f5⟩ := fld_reg hf
 unfold updS
 simp only
 split
 ·rename_i h
  rw [w3 h, List.mem_singleton] at hw
  have := f5 (by omega)
  rw [getD_set_other (by omega)]
 ·split
  ·rename_i h
   obtain ⟨q1, q2, q3⟩ := plS_in (s := s) hv hi h
   have hne : plS d i s ≠ m := fun e => by
    have := ring_used q1 q2
    rw [e, hu] at this; cases this
   rw [getD_set_other (by omega)]
  ·rfl
theorem ring_st (hv : validB d = true) (hi : suitB d i = true) {a : Int} (ha : 0 ≤ a ∧ a < d.rg.length) (hw : 20 + a ∉ i.wt) : (updS d i v s).heads.getD a.toNat 0 = s.heads.getD a.toNat 0 ∧
  ∀ m, ((rgA d a).1 ≤ m ∧ m < (rgA d a).1 + (rgA d a).2) → 0 ≤ m → (updS d i v s).mem.getD m.toNat 0 = s.mem.getD m.toNat 0 := by
 have hf := suit_formed hi
 obtain ⟨-, -, w3, w4, -⟩ := wt_of hf
 obtain ⟨-, -, -, -, f5⟩ := fld_reg hf
 unfold updS
 simp only
 refine ⟨?_, fun m hm h0 => ?_⟩
 ·split
  ·rename_i h
   rw [w4 h, List.mem_singleton] at hw
   obtain ⟨q1, -, -⟩ := plS_in (s := s) hv hi h
   rw [getD_set_other (by omega)]
  ·rfl
 ·split
  ·rename_i h
   have := f5 (by omega)
   have hne : i.b ≠ m := fun e => by
    have h1 := (suit_used hi).2 (.inr h)
    have h2 := ring_used ha hm
    rw [← e, h1] at h2; cases h2
   rw [getD_set_other (by omega)]
  ·split
   ·rename_i h
    rw [w4 h, List.mem_singleton] at hw
    obtain ⟨q1, q2, q3⟩ := plS_in (s := s) hv hi h
    have hne : plS d i s ≠ m := fun e => by
     have := rings_apart hv q1 ha q2 (by rw [e]; exact hm)
     omega
    rw [getD_set_other (by omega)]
   ·rfl
end
theorem wrap64_wrap (x y : Int) : wrap64 (wrap64 x + y) = wrap64 (x + y) := by
 unfold wrap64
 omega
def Apart (i j : Ins) : Prop := ∀ v ∈ i.wt, (v = 8 ∧ sumOp i.op = true ∧ sumOp j.op = true) ∨ (v ∉ j.rd ∧ v ∉ j.wt)
theorem apart_of {i j : Ins} (h : depF i j = false) : (i.op ≠ 0 ∧ j.op ≠ 0) ∧ Apart i j ∧ Apart j i := by
 unfold depF at h
 simp only [Bool.or_eq_false_iff] at h
 obtain ⟨⟨h1, h2⟩, h3, h4⟩ := h
 refine ⟨⟨by simpa using h1, by simpa using h2⟩, fun v hv => ?_, fun v hv => ?_⟩
 ·have := List.any_eq_false.1 h3 v hv
  unfold touchF at this
  by_cases h8 : v = 8 ∧ sumOp i.op = true ∧ sumOp j.op = true
  ·exact .inl h8
  ·refine .inr ?_
   have e : (!(sumOp i.op && sumOp j.op && v == 8)) = true := by
    rw [Bool.not_eq_true', Bool.eq_false_iff]
    intro hh
    simp only [Bool.and_eq_true, beq_iff_eq] at hh
    exact h8 ⟨hh.2, hh.1.1, hh.1.2⟩
   rw [e] at this
   simpa using this
 ·have := List.any_eq_false.1 h4 v hv
  unfold touchF at this
  by_cases h8 : v = 8 ∧ sumOp j.op = true ∧ sumOp i.op = true
  ·exact .inl h8
  ·refine .inr ?_
   have e : (!(sumOp i.op && sumOp j.op && v == 8)) = true := by
    rw [Bool.not_eq_true', Bool.eq_false_iff]
    intro hh
    simp only [Bool.and_eq_true, beq_iff_eq] at hh
    exact h8 ⟨hh.2, hh.1.2, hh.1.1⟩
   rw [e] at this
   simpa using this
theorem apart_out {i j : Ins} (h : Apart i j) {r : Int} (h8 : r ≠ 8) (hr : r ∈ j.rd ∨ r ∈ j.wt) : r ∉ i.wt := fun hm => by
 rcases h r hm with h | h
 ·exact h8 h.1
 ·rcases hr with hr | hr
  ·exact h.1 hr
  ·exact h.2 hr
set_option maxHeartbeats 2000000 in
theorem val_st {d : PrgD} {x u : Int} {i j : Ins} {s : Smp} (hv : validB d = true) (hi : suitB d i = true) (hj : suitB d j = true) (h : Apart i j) : valS d x j (updS d i u s) = valS d x j s := by
 have hf := suit_formed hj
 obtain ⟨r2, r3, r4, r5, r6, r7, r8, r10, r11⟩ := rd_of hf
 obtain ⟨f1, f2, f3, f4, f5⟩ := fld_reg hf
 obtain ⟨u1, u2⟩ := suit_used hj
 unfold valS
 split
 ·rename_i e
  have := f1 (by omega)
  rw [regs_st hi this.1 (apart_out h (by omega) (.inl (by rw [r2 e]; exact List.mem_cons_self)))]
 split
 ·rename_i e
  have := f4 e
  rw [mem_st hv hi this.1 (u1 e) (apart_out h (by omega) (.inl (by rw [r3 e]; simp)))]
 split
 ·rename_i e
  obtain ⟨a0, a1, -⟩ := suit_ring hj (.inl e)
  obtain ⟨q1, q2⟩ := ring_st (v := u) (s := s) hv hi ⟨a0, a1⟩ (apart_out h (by omega) (.inl (by rw [r4 e]; simp)))
  have ep : plc d (updS d i u s).heads j.a j.b = plc d s.heads j.a j.b := by unfold plc; rw [q1]
  obtain ⟨p1, p2, p3, -⟩ := plc_in hv (hs := s.heads) (b := j.b) a0 a1
  rw [ep, q2 _ ⟨p1, p2⟩ p3]
 split
 ·rename_i e
  by_cases h8 : (8 : Int) ∈ i.wt
  ·rcases h 8 h8 with hh | hh
   ·have := hh.2.2
    rw [e] at this
    exact absurd this (by decide)
   ·exact absurd (by rw [r5 e]; exact List.mem_cons_self) hh.1
  ·exact sum_st hi h8
 split
 ·rename_i e
  have := f5 (by omega)
  rw [mem_st hv hi this.1 (u2 (by omega)) (apart_out h (by omega) (.inl (by rw [r6 e]; simp)))]
 split
 ·rename_i e
  have := f1 (by omega)
  rw [regs_st hi this.1 (apart_out h (by omega) (.inl (by rw [r7 e]; exact List.mem_cons_self)))]
 split
 ·rename_i e
  have := f2 (by omega)
  rw [regs_st hi this.1 (apart_out h (by omega) (.inl (by rw [r8 e]; exact List.mem_cons_self)))]
 split
 ·rfl
 split
 ·rename_i e
  have := f1 (by omega)
  rw [regs_st hi this.1 (apart_out h (by omega) (.inl (by rw [r10 e]; exact List.mem_cons_self)))]
 split
 ·rename_i e
  have := f2 (by omega)
  rw [regs_st hi this.1 (apart_out h (by omega) (.inl (by rw [r11 e]; exact List.mem_cons_self)))]
 ·rfl
theorem hd_st {d : PrgD} {u : Int} {i j : Ins} {s : Smp} (hv : validB d = true) (hi : suitB d i = true) (hj : suitB d j = true) (ho : j.op = 8) (h : Apart i j) : hdS d j (updS d i u s) = hdS d j s ∧ plS d j (updS d i u s) = plS d j s := by
 have hf := suit_formed hj
 obtain ⟨-, -, -, w4, -⟩ := wt_of hf
 obtain ⟨a0, a1, -⟩ := suit_ring hj (.inr ho)
 obtain ⟨q1, -⟩ := ring_st (v := u) (s := s) hv hi ⟨a0, a1⟩ (apart_out h (by omega) (.inr (by rw [w4 ho]; simp)))
 have e : hdS d j (updS d i u s) = hdS d j s := by unfold hdS; rw [q1]
 refine ⟨e, ?_⟩
 unfold plS plc
 rw [e]
 have e2 : ((updS d i u s).heads.set j.a.toNat (hdS d j s)).getD j.a.toNat 0 = (s.heads.set j.a.toNat (hdS d j s)).getD j.a.toNat 0 := by
  rw [List.getD_eq_getElem?_getD, List.getD_eq_getElem?_getD, List.getElem?_set, List.getElem?_set, if_pos rfl, if_pos rfl]
  have el : (updS d i u s).heads.length = s.heads.length := by
   unfold updS
   simp only
   split
   ·rw [List.length_set]
   ·rfl
  rw [el]
 rw [e2]
set_option maxHeartbeats 2000000 in
theorem upd_comm {d : PrgD} {u v : Int} {i j : Ins} {s : Smp} (hv : validB d = true) (hi : suitB d i = true) (hj : suitB d j = true) (h : Apart i j) (h' : Apart j i) : updS d j v (updS d i u s) = updS d i u (updS d j v s) := by
 have hfi := suit_formed hi
 have hfj := suit_formed hj
 obtain ⟨w1, w2, w3, w4, w5⟩ := wt_of hfi
 obtain ⟨z1, z2, z3, z4, z5⟩ := wt_of hfj
 obtain ⟨f1, -, -, -, f5⟩ := fld_reg hfi
 obtain ⟨g1, -, -, -, g5⟩ := fld_reg hfj
 have hsum : ¬ ((i.op = 1 ∨ i.op = 2 ∨ i.op = 3 ∨ i.op = 4) ∧ j.op = 1) ∧ ¬ (i.op = 1 ∧ (j.op = 1 ∨ j.op = 2 ∨ j.op = 3 ∨ j.op = 4)) := by
  refine ⟨fun ⟨e1, e2⟩ => ?_, fun ⟨e1, e2⟩ => ?_⟩
  ·rcases h 8 (by rw [w1 e1]; simp) with hh | hh
   ·have := hh.2.2; rw [e2] at this; exact absurd this (by decide)
   ·exact hh.2 (by rw [z1 (by omega)]; simp)
  ·rcases h' 8 (by rw [z1 e2]; simp) with hh | hh
   ·have := hh.2.2; rw [e1] at this; exact absurd this (by decide)
   ·exact hh.2 (by rw [w1 (by omega)]; simp)
 have hreg : (i.op = 5 ∨ i.op = 6 ∨ i.op = 9 ∨ i.op = 11) → (j.op = 5 ∨ j.op = 6 ∨ j.op = 9 ∨ j.op = 11) → i.a.toNat ≠ j.a.toNat := fun e1 e2 => by
  have := f1 (by omega)
  have := g1 (by omega)
  have := apart_out h (r := j.a) (by omega) (.inr (by rw [z2 e2]; simp))
  rw [w2 e1, List.mem_singleton] at this
  omega
 have hout : ¬ (i.op = 10 ∧ j.op = 10) := fun ⟨e1, e2⟩ => apart_out h (r := 10) (by omega) (.inr (by rw [z5 e2]; simp)) (by rw [w5 e1]; simp)
 have hcomp : ∀ (a b : Smp), a.regs = b.regs → a.mem = b.mem → a.heads = b.heads → a.sum = b.sum → a.out = b.out → a.ov = b.ov → a = b := fun a b h1 h2 h3 h4 h5 h6 => by
  cases a; cases b; simp only at h1 h2 h3 h4 h5 h6; subst h1 h2 h3 h4 h5 h6; rfl
 apply hcomp
 ·show (if j.op = 5 then ((updS d i u s).regs).set _ _ else _) = (if i.op = 5 then ((updS d j v s).regs).set _ _ else _)
  simp only [updS]
  by_cases hi5 : i.op = 5 ∨ i.op = 6 ∨ i.op = 9 ∨ i.op = 11
  ·by_cases hj5 : j.op = 5 ∨ j.op = 6 ∨ j.op = 9 ∨ j.op = 11
   ·have hne := hreg hi5 hj5
    split <;> split <;> (try split) <;> (try split) <;> first | exact List.set_comm _ _ hne | omega
   ·rw [if_neg (show ¬ j.op = 5 by omega), if_neg (show ¬ (j.op = 6 ∨ j.op = 9 ∨ j.op = 11) by omega), if_neg (show ¬ j.op = 5 by omega), if_neg (show ¬ (j.op = 6 ∨ j.op = 9 ∨ j.op = 11) by omega)]
  ·rw [if_neg (show ¬ i.op = 5 by omega), if_neg (show ¬ (i.op = 6 ∨ i.op = 9 ∨ i.op = 11) by omega), if_neg (show ¬ i.op = 5 by omega), if_neg (show ¬ (i.op = 6 ∨ i.op = 9 ∨ i.op = 11) by omega)]
 ·show (if j.op = 7 then (updS d i u s).mem.set j.b.toNat v else if j.op = 8 then (updS d i u s).mem.set (plS d j (updS d i u s)).toNat v else (updS d i u s).mem) = (if i.op = 7 then (updS d j v s).mem.set i.b.toNat u else if i.op = 8 then (updS d j v s).mem.set (plS d i (updS d j v s)).toNat u else (updS d j v s).mem)
  have ej : j.op = 8 → plS d j (updS d i u s) = plS d j s := fun e => (hd_st hv hi hj e h).2
  have ei : i.op = 8 → plS d i (updS d j v s) = plS d i s := fun e => (hd_st hv hj hi e h').2
  have n77 : i.op = 7 → j.op = 7 → i.b.toNat ≠ j.b.toNat := fun e1 e2 => by
   have := f5 (by omega)
   have := g5 (by omega)
   have := apart_out h (r := 100 + j.b) (by omega) (.inr (by rw [z3 e2]; simp))
   rw [w3 e1, List.mem_singleton] at this
   omega
  have n78 : i.op = 7 → j.op = 8 → i.b.toNat ≠ (plS d j s).toNat := fun e1 e2 => by
   have := f5 (by omega)
   obtain ⟨q1, q2, q3⟩ := plS_in (s := s) hv hj e2
   have hne : i.b ≠ plS d j s := fun e => by
    have h1 := (suit_used hi).2 (.inr e1)
    have h2 := ring_used q1 q2
    rw [← e, h1] at h2; cases h2
   omega
  have n87 : i.op = 8 → j.op = 7 → (plS d i s).toNat ≠ j.b.toNat := fun e1 e2 => by
   have := g5 (by omega)
   obtain ⟨q1, q2, q3⟩ := plS_in (s := s) hv hi e1
   have hne : j.b ≠ plS d i s := fun e => by
    have h1 := (suit_used hj).2 (.inr e2)
    have h2 := ring_used q1 q2
    rw [← e, h1] at h2; cases h2
   omega
  have n88 : i.op = 8 → j.op = 8 → (plS d i s).toNat ≠ (plS d j s).toNat := fun e1 e2 => by
   obtain ⟨q1, q2, q3⟩ := plS_in (s := s) hv hi e1
   obtain ⟨p1, p2, p3⟩ := plS_in (s := s) hv hj e2
   have := apart_out h (r := 20 + j.a) (by omega) (.inr (by rw [z4 e2]; simp))
   rw [w4 e1, List.mem_singleton] at this
   have hne : plS d i s ≠ plS d j s := fun e => by
    have := rings_apart hv q1 p1 q2 (by rw [e]; exact p2)
    omega
   omega
  have mi : (updS d i u s).mem = if i.op = 7 then s.mem.set i.b.toNat u else if i.op = 8 then s.mem.set (plS d i s).toNat u else s.mem := rfl
  have mj : (updS d j v s).mem = if j.op = 7 then s.mem.set j.b.toNat v else if j.op = 8 then s.mem.set (plS d j s).toNat v else s.mem := rfl
  rw [mi, mj]
  by_cases i7 : i.op = 7
  ·have i8 : ¬ i.op = 8 := by omega
   by_cases j7 : j.op = 7
   ·rw [if_pos i7, if_pos j7, if_pos i7, if_pos j7]; exact List.set_comm _ _ (n77 i7 j7)
   ·by_cases j8 : j.op = 8
    ·rw [if_pos i7, if_neg j7, if_pos j8, if_pos i7, if_neg j7, if_pos j8, ej j8]; exact List.set_comm _ _ (n78 i7 j8)
    ·rw [if_pos i7, if_neg j7, if_neg j8, if_pos i7, if_neg j7, if_neg j8]
  ·by_cases i8 : i.op = 8
   ·by_cases j7 : j.op = 7
    ·rw [if_neg i7, if_pos i8, if_pos j7, if_neg i7, if_pos i8, if_pos j7, ei i8]; exact List.set_comm _ _ (n87 i8 j7)
    ·by_cases j8 : j.op = 8
     ·rw [if_neg i7, if_pos i8, if_neg j7, if_pos j8, if_neg i7, if_pos i8, if_neg j7, if_pos j8, ei i8, ej j8]; exact List.set_comm _ _ (n88 i8 j8)
     ·rw [if_neg i7, if_pos i8, if_neg j7, if_neg j8, if_neg i7, if_pos i8, if_neg j7, if_neg j8, ei i8]
   ·by_cases j7 : j.op = 7
    ·rw [if_neg i7, if_neg i8, if_pos j7, if_neg i7, if_neg i8, if_pos j7]
    ·by_cases j8 : j.op = 8
     ·rw [if_neg i7, if_neg i8, if_neg j7, if_pos j8, if_neg i7, if_neg i8, if_neg j7, if_pos j8, ej j8]
     ·rw [if_neg i7, if_neg i8, if_neg j7, if_neg j8, if_neg i7, if_neg i8, if_neg j7, if_neg j8]
 ·show (if j.op = 8 then (updS d i u s).heads.set j.a.toNat (hdS d j (updS d i u s)) else (updS d i u s).heads) = (if i.op = 8 then (updS d j v s).heads.set i.a.toNat (hdS d i (updS d j v s)) else (updS d j v s).heads)
  have ej : j.op = 8 → hdS d j (updS d i u s) = hdS d j s := fun e => (hd_st hv hi hj e h).1
  have ei : i.op = 8 → hdS d i (updS d j v s) = hdS d i s := fun e => (hd_st hv hj hi e h').1
  have mi : (updS d i u s).heads = if i.op = 8 then s.heads.set i.a.toNat (hdS d i s) else s.heads := rfl
  have mj : (updS d j v s).heads = if j.op = 8 then s.heads.set j.a.toNat (hdS d j s) else s.heads := rfl
  rw [mi, mj]
  by_cases i8 : i.op = 8
  ·by_cases j8 : j.op = 8
   ·rw [if_pos i8, if_pos j8, if_pos i8, if_pos j8, ei i8, ej j8]
    obtain ⟨q1, -, -⟩ := plS_in (s := s) hv hi i8
    obtain ⟨p1, -, -⟩ := plS_in (s := s) hv hj j8
    have := apart_out h (r := 20 + j.a) (by omega) (.inr (by rw [z4 j8]; simp))
    rw [w4 i8, List.mem_singleton] at this
    exact List.set_comm _ _ (by omega)
   ·rw [if_pos i8, if_neg j8, if_pos i8, if_neg j8, ei i8]
  ·by_cases j8 : j.op = 8
   ·rw [if_neg i8, if_pos j8, if_neg i8, if_pos j8, ej j8]
   ·rw [if_neg i8, if_neg j8, if_neg i8, if_neg j8]
 ·simp only [updS]
  by_cases i1 : i.op = 1
  ·have j1 : ¬ j.op = 1 := by omega
   have j2 : ¬ (j.op = 2 ∨ j.op = 3 ∨ j.op = 4) := by omega
   simp only [i1, j1, j2, if_true, if_false]
  ·by_cases i2 : i.op = 2 ∨ i.op = 3 ∨ i.op = 4
   ·have j1 : ¬ j.op = 1 := by omega
    by_cases j2 : j.op = 2 ∨ j.op = 3 ∨ j.op = 4
    ·simp only [i1, i2, j1, j2, if_true, if_false]
     rw [wrap64_wrap, wrap64_wrap, Int.add_right_comm]
    ·simp only [i1, i2, j1, j2, if_true, if_false]
   ·by_cases j1 : j.op = 1
    ·simp only [i1, i2, j1, if_true, if_false]
    ·by_cases j2 : j.op = 2 ∨ j.op = 3 ∨ j.op = 4
     ·simp only [i1, i2, j1, j2, if_true, if_false]
     ·simp only [i1, i2, j1, j2, if_true, if_false]
 ·simp only [updS]
  by_cases i1 : i.op = 10
  ·have j1 : ¬ j.op = 10 := by omega
   simp only [i1, j1, if_true, if_false]
  ·simp only [i1, if_false]
 ·simp only [updS]
  by_cases i1 : i.op = 5
  ·by_cases j1 : j.op = 5
   ·simp only [i1, j1, if_true]
    rw [Bool.or_right_comm]
   ·simp only [i1, j1, if_true, if_false]
  ·simp only [i1, if_false]
theorem step_comm {d : PrgD} {x : Int} {i j : Ins} (hv : validB d = true) (hi : suitB d i = true) (hj : suitB d j = true) (h : depF i j = false) (s : Smp) : stepM d x (stepM d x s i) j = stepM d x (stepM d x s j) i := by
 obtain ⟨-, h1, h2⟩ := apart_of h
 rw [step_upd (suit_formed hi), step_upd (suit_formed hj), step_upd (suit_formed hj), step_upd (suit_formed hi), val_st hv hi hj h1, val_st hv hj hi h2]
 exact upd_comm hv hi hj h1 h2
theorem fold_past {d : PrgD} {x : Int} (hv : validB d = true) {a : Ins} (ha : suitB d a = true) : ∀ (u v : List Ins) (s : Smp), (∀ c ∈ u, suitB d c = true ∧ depF a c = false) → (u ++ a :: v).foldl (stepM d x) s = (a :: (u ++ v)).foldl (stepM d x) s
 | [], _, _, _ => rfl
 | c :: u, v, s, h => by
  have hc := h c List.mem_cons_self
  show (u ++ a :: v).foldl (stepM d x) (stepM d x s c) = (u ++ v).foldl (stepM d x) (stepM d x (stepM d x s a) c)
  rw [fold_past hv ha u v _ fun e he => h e (List.mem_cons_of_mem _ he), step_comm hv ha hc.1 hc.2]
  rfl
theorem split_first {a : Ins} : ∀ {y : List Ins}, a ∈ y → ∃ u v, y = u ++ a :: v ∧ a ∉ u
 | [], h => by cases h
 | b :: y, h => by
  by_cases e : b = a
  ·subst e; exact ⟨[], y, rfl, by simp⟩
  ·obtain ⟨u, v, h1, h2⟩ := split_first (y := y) (by
    rcases List.mem_cons.1 h with h | h
    ·exact absurd h.symm e
    ·exact h)
   refine ⟨b :: u, v, by rw [h1]; rfl, ?_⟩
   intro hm
   rcases List.mem_cons.1 hm with hm | hm
   ·exact e hm.symm
   ·exact h2 hm
theorem tr_fold {d : PrgD} {x : Int} (hv : validB d = true) : ∀ (l y : List Ins) (s : Smp), Tr l y → (∀ i ∈ l, suitB d i = true) → l.foldl (stepM d x) s = y.foldl (stepM d x) s
 | [], y, s, h, _ => by
  have := h.perm.length_eq
  obtain rfl : y = [] := List.eq_nil_of_length_eq_zero (by simpa using this.symm)
  rfl
 | a :: l, y, s, h, hs => by
  obtain ⟨u, v, rfl, hu⟩ := split_first (h.perm.mem_iff.1 (List.mem_cons_self (a := a) (l := l)))
  have hfree : ∀ c ∈ u, depF a c = false ∧ a ≠ c := fun c hc => by
   have hne : a ≠ c := fun e => hu (e ▸ hc)
   refine ⟨?_, hne⟩
   rw [Bool.eq_false_iff]
   intro hd
   have hq := h a c (.inl hd)
   rw [List.filter_cons_of_pos (qF_self a c), List.filter_append] at hq
   obtain ⟨e, t, he⟩ : ∃ e t, u.filter (qF a c) = e :: t := by
    have : c ∈ u.filter (qF a c) := List.mem_filter.2 ⟨hc, qF_other a c⟩
    cases hh : u.filter (qF a c) with
    | nil => rw [hh] at this; cases this
    | cons e t => exact ⟨e, t, rfl⟩
   rw [he] at hq
   injection hq with hq1 hq2
   have : e ∈ u.filter (qF a c) := by rw [he]; exact List.mem_cons_self
   exact hu (hq1 ▸ (List.mem_filter.1 this).1)
  have hsu : ∀ c ∈ u ++ a :: v, suitB d c = true := fun c hc => hs c (h.perm.mem_iff.2 hc)
  rw [fold_past hv (hs a List.mem_cons_self) u v s fun c hc => ⟨hsu c (List.mem_append.2 (.inl hc)), (hfree c hc).1⟩]
  show l.foldl (stepM d x) (stepM d x s a) = (u ++ v).foldl (stepM d x) (stepM d x s a)
  refine tr_fold hv l (u ++ v) _ (fun b c hbc => ?_) fun i hi => hs i (List.mem_cons_of_mem _ hi)
  have hq := h b c hbc
  by_cases hqa : qF b c a = true
  ·rw [List.filter_cons_of_pos hqa, List.filter_append, List.filter_cons_of_pos hqa] at hq
   have hnil : u.filter (qF b c) = [] := by
    rw [List.filter_eq_nil_iff]
    intro e he hqe
    obtain ⟨h1, h2⟩ := hfree e he
    unfold qF at hqa hqe
    rw [decide_eq_true_eq] at hqa hqe
    rcases hqa with rfl | rfl
    ·rcases hqe with rfl | rfl
     ·exact h2 rfl
     ·rcases hbc with hbc | hbc
      ·rw [hbc] at h1; cases h1
      ·exact h2 hbc
    ·rcases hqe with rfl | rfl
     ·rcases hbc with hbc | hbc
      ·rw [depF_comm, hbc] at h1; cases h1
      ·exact h2 hbc.symm
     ·exact h2 rfl
   rw [hnil, List.nil_append] at hq
   rw [List.filter_append, hnil, List.nil_append]
   exact (List.cons.inj hq).2
  ·rw [List.filter_cons_of_neg hqa, List.filter_append, List.filter_cons_of_neg hqa] at hq
   rw [List.filter_append]; exact hq
end Go.Proofs.YtdiflpbioohddaaDoor
