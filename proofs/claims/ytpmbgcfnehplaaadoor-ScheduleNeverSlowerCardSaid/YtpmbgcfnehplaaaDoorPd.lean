/- Several texts in one: E30 E32 E33. -/
import Derived.Test.YtpmbgcfnehplaaaDoorE22
import Derived.Test.YtpmbgcfnehplaaaDoorE28
import Derived.Test.YtpmbgcfnehplaaaDoorPa
import Derived.Test.YtpmbgcfnehplaaaDoorPz
import Derived.Deep.CutBlock
import Derived.Deep.DeepCutAuto
import Derived.Test.YtpmbgcfnehplaaaDoorE31
import Derived.Test.YtpmbgcfnehplaaaDoorPy
section
/- The law ScheduleJudges. Printed by gen_e30.py. -/
set_option linter.unusedVariables false
set_option linter.unusedSimpArgs false
namespace Go.Proofs.YtpmbgcfnehplaaaDoor
open Go.RowKit

theorem prgF_code_pos (dn cn : Int) (rs os fs : List Int) (most : Nat) : 1 ≤ (prgF dn cn rs os fs most).code.length ∧ (prgF dn cn rs os fs most).code.length ≤ most + 1 := by
  unfold prgF
  simp [codeK_length]
  omega
theorem size_dft : (Tryd.prog.info? 24).map (·.size) = some 5 := by kernel_rfl
theorem row_dft : ∃ d, Tryd.prog.underlying 24 = some d ∧ d.isRow = true := ⟨_, Tryd.underlying24, rfl⟩
theorem fld_code (v0 v1 v2 v3 v4 v5 v6 v7 : Int) (RA CA : Option Addr) (rn rc cn cc : Nat) (w : World) : (Instr.field 30 (.agg #[.int .i64 v0, .int .i64 v1, .int .i64 v2, .int .i64 v3, .int .i64 v4, .int .i64 v5, .int .i64 v6, .int .i64 v7, .slice RA rn rc, .slice CA cn cc]) 3).run Tryd.prog w = .ok (.slice CA cn cc) w := by kernel_rfl
def DraftA.lst (u : DraftA) : List Value := [.int .i64 u.dn, .int .i64 u.cn, .slice u.RA u.rs.length u.rc, .slice u.OA u.os.length u.oc, .slice u.FA u.fs.length u.fc]
/-- A boxed draft is loaded. -/
theorem ld_dft {ops : Array Oper} {rest : List Oper} {o : Oper} {a : Act} {Q : Exit → Act → World → Prop} {w : World} {u : DraftA} {g : Nat} (hb : Box w g u.lst) (hgd : o.guard = none) (x : Operand) (ho : o.op = .load 24 x) (hx : a.eval x = .pointer (some ⟨g, 0, none⟩)) (h : wpList Tryd.prog ops Q rest (a.put o.dst u.v) w) : wpList Tryd.prog ops Q (o :: rest) a w := by
  obtain ⟨d, h1, h2⟩ := row_dft
  exact wp_ld hgd _ x ho g 0 hx hb u.lst (fun j v hj => by rw [Nat.zero_add]; exact hj) d h1 h2 size_dft h
theorem OwnIR.some {base : Nat} {w : World} {v : Value} {l : List Ins} (h : OwnIR base w v l) (hl : 1 ≤ l.length) : ∃ g c, v = .slice (some ⟨g, 0, none⟩) l.length c := by
  obtain ⟨A, c, rfl, -⟩ := own_form h.1
  obtain ⟨i, hi⟩ : ∃ i, l[0]? = Option.some i := ⟨_, List.getElem?_eq_getElem (by omega)⟩
  obtain ⟨g, e0, -, -⟩ := own_cells h.1 (k := 0 * 4 + 0) (v := .int .i64 i.op) (by rw [flatI_get hi (by omega)]; rfl)
  subst e0
  exact ⟨g, c, rfl⟩
end Go.Proofs.YtpmbgcfnehplaaaDoor
end
section
/- The code of a draft is fine. -/
set_option linter.unusedVariables false
set_option linter.unusedSimpArgs false
namespace Go.Proofs.YtpmbgcfnehplaaaDoor
open Go.RowKit

theorem insF_formed {rg : List (Int × Int)} {op a b y : Int} (ho : 1 ≤ op ∧ op ≤ 11) (hy : -8388608 ≤ y ∧ y ≤ 8388608) (hg : rg.length ≤ 3) (h6 : ∀ x ∈ rg, 1 ≤ x.2 ∧ x.2 ≤ 6) : (insF rg op a b y).formed = true := by
  have hc : op = 1 ∨ op = 2 ∨ op = 3 ∨ op = 4 ∨ op = 5 ∨ op = 6 ∨ op = 7 ∨ op = 8 ∨ op = 9 ∨ op = 10 ∨ op = 11 := by omega
  rcases hc with rfl | rfl | rfl | rfl | rfl | rfl | rfl | rfl | rfl | rfl | rfl
  · rw [insF_1]; rfl
  · rw [insF_2]; simp [Ins.formed, kA, kB, kC, fitsK]; omega
  · rw [insF_3]; simp [Ins.formed, kA, kB, kC, fitsK]; omega
  · by_cases h0 : rg.length = 0
    · rw [insF_40 _ _ _ h0]; rfl
    · have e0 := Int.emod_nonneg a (show (rg.length : Int) ≠ 0 by omega)
      have e1 := Int.emod_lt_of_pos a (show (0 : Int) < rg.length by omega)
      obtain ⟨m, hm⟩ := Int.eq_ofNat_of_zero_le e0
      obtain ⟨x, hx⟩ : ∃ x, rg[m]? = some x := ⟨_, List.getElem?_eq_getElem (by omega)⟩
      rw [insF_4 rfl (by omega) hm hx]
      have := h6 x (List.mem_of_getElem? hx)
      have := Int.emod_nonneg (a / 10) (show x.2 ≠ 0 by omega)
      have := Int.emod_lt_of_pos (a / 10) (show 0 < x.2 by omega)
      simp [Ins.formed, kA, kB, kC, fitsK]; omega
  · rw [insF_5]; simp [Ins.formed, kA, kB, kC, fitsK]; omega
  · rw [insF_6]; simp [Ins.formed, kA, kB, kC, fitsK]; omega
  · rw [insF_7]; simp [Ins.formed, kA, kB, kC, fitsK]; omega
  · by_cases h0 : rg.length = 0
    · rw [insF_80 _ _ _ h0]; rfl
    · have e0 := Int.emod_nonneg a (show (rg.length : Int) ≠ 0 by omega)
      have e1 := Int.emod_lt_of_pos a (show (0 : Int) < rg.length by omega)
      obtain ⟨m, hm⟩ := Int.eq_ofNat_of_zero_le e0
      rw [insF_8 rfl (by omega) hm]
      simp [Ins.formed, kA, kB, kC, fitsK]; omega
  · rw [insF_9]; simp [Ins.formed, kA, kB, kC, fitsK]; omega
  · rw [insF_10]; simp [Ins.formed, kA, kB, kC, fitsK]; omega
  · rw [insF_11]; simp [Ins.formed, kA, kB, kC, fitsK]; omega
theorem ringsF_six (rs : List Int) (n : Nat) : ∀ x ∈ ringsF rs n, 1 ≤ x.2 ∧ x.2 ≤ 6 := fun x hx => by
  unfold ringsF at hx
  obtain ⟨k, -, rfl⟩ := List.mem_map.1 hx
  have := within_in (m := 6) (by omega) (rs.getD k 0)
  show 1 ≤ 1 + _ ∧ 1 + _ ≤ 6
  omega
theorem wordF_23 (b f r o x : Int) : -8388608 ≤ wordF b f r o x ∧ wordF b f r o x ≤ 8388608 := by
  obtain ⟨q1, q2, q3, q4⟩ := low_high b f r o
  obtain ⟨g1, g2⟩ := within_in (m := highW b f r o - lowW b f r o + 1) (by omega) (wrap64 (x - lowW b f r o))
  unfold wordF
  omega
theorem prgF_formed (dn cn : Int) (rs os fs : List Int) (most : Nat) : ∀ i ∈ (prgF dn cn rs os fs most).code, i.formed = true := fun i hi => by
  unfold prgF at hi
  simp only at hi
  rcases List.mem_append.1 hi with h | h
  · unfold codeK at h
    obtain ⟨k, -, rfl⟩ := List.mem_map.1 h
    unfold insK
    have := within_in (m := 11) (by omega) (os.getD k 0)
    exact insF_formed (by omega) (wordF_23 _ _ _ _ _) (by rw [ringsF_length]; omega) (ringsF_six _ _)
  · rw [List.mem_singleton.1 h]; rfl
theorem prgF_fine (dn cn : Int) (rs os fs : List Int) (most : Nat) (hm : most ≤ 511) : fineF (prgF dn cn rs os fs most).code = true := by
  have h := prgF_code_pos dn cn rs os fs most
  unfold fineF inB
  rw [Bool.and_eq_true, Bool.and_eq_true, decide_eq_true_eq, decide_eq_true_eq]
  exact ⟨⟨by omega, by omega⟩, List.all_eq_true.2 (prgF_formed _ _ _ _ _ _)⟩
theorem Tr.len {x y : List Ins} (h : Tr x y) : y.length = x.length := h.perm.length_eq.symm
theorem Tr.fine {x y : List Ins} (h : Tr x y) (hf : fineF x = true) : fineF y = true := by
  have := fineF_len hf
  have hl := h.len
  exact gr_fine hf (by omega) (by omega) fun i hi => h.perm.mem_iff.2 hi
theorem Tr.legR {x y : List Ins} (h : Tr x y) (hf : fineF x = true) : legR x y = true ∧ legE x y = 0 := by
  have h2 := h.fine hf
  unfold Go.Proofs.YtpmbgcfnehplaaaDoor.legR legE
  rw [hf, h2, h.leg]
  exact ⟨rfl, rfl⟩
theorem fine_all {x : List Ins} (hf : fineF x = true) : ∀ i ∈ x, i.formed = true := by
  unfold fineF at hf
  exact List.all_eq_true.1 (Bool.and_eq_true_iff.1 hf).2
theorem fine_two {a b : Ins} (ha : a.formed = true) (hb : b.formed = true) : fineF [a, b] = true := by
  unfold fineF
  rw [List.all_cons, List.all_cons, ha, hb]
  unfold inB
  simp
theorem depD_two {a b : Ins} (ha : a.formed = true) (hb : b.formed = true) : depD [a, b] = [[], if depF a b then [0] else []] ∧ depE [a, b] = 0 := by
  have hf := fine_two ha hb
  unfold depD depE
  rw [if_pos hf, if_pos hf]
  refine ⟨?_, rfl⟩
  have h0 : depRow [a, b] 1 1 = if depF a b then [0] else [] := by
    rw [depRow_succ, depRow_zero]; rfl
  show [depRow [a, b] 0 0, depRow [a, b] 1 1] = _
  rw [h0, depRow_zero]
theorem low_tr {x y : List Ins} (h : Tr x y) (hf : fineF x = true) : lowD x ≤ cycF y := by
  unfold lowD cycF
  rw [if_pos hf, if_pos (h.fine hf)]
  have hl : (htF x).length = x.length := (hts_in x x.length x.length (Nat.le_refl _)).1
  exact low_le h (fine_all hf) hl
theorem bld_ins2 {ops : Array Oper} {rest : List Oper} {o : Oper} {a : Act} {Q : Exit → Act → World → Prop} {w : World} (i0 i1 : Ins) (hgd : o.guard = none) (x0 x1 : Operand) (ho : o.op = .buildSlice 28 2 #[(0, x0), (1, x1)]) (h0 : a.eval x0 = i0.v) (h1 : a.eval x1 = i1.v)
    (h : wpList Tryd.prog ops Q rest (a.put o.dst (.slice (some ⟨w.heap.size, 0, none⟩) 2 2)) (litI w [i0, i1])) : wpList Tryd.prog ops Q (o :: rest) a w :=
  wp_bldS hgd 28 48 2 _ ho und_ins 4 size_ins (by decide) (by decide) _ rfl (by show builtS Tryd.prog 48 2 [(0, a.eval x0), (1, a.eval x1)] = _; rw [h0, h1]; kernel_rfl) h
end Go.Proofs.YtpmbgcfnehplaaaDoor
end
section
/- The law ScheduleIsLegal. Printed by gen_e33.py. -/
set_option linter.unusedVariables false
set_option linter.unusedSimpArgs false
namespace Go.Proofs.YtpmbgcfnehplaaaDoor
open Go.RowKit

end Go.Proofs.YtpmbgcfnehplaaaDoor
end
