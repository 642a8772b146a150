/- The draft's program is valid. No walk. -/
import Derived.Test.YtpmbgcfnehplaaaDoorS1
import Derived.Test.YtpmbgcfnehplaaaDoorPd
set_option linter.unusedVariables false
set_option linter.unusedSimpArgs false
namespace Go.Proofs.YtpmbgcfnehplaaaDoor
open Go.RowKit

theorem fits_wordF {b f r o : Int} (h : okW b f r o = true) (x : Int) : fitsW b f r o (wordF b f r o x) = true := by
  obtain ⟨q1, q2, q3, q4⟩ := low_high b f r o
  obtain ⟨g1, g2⟩ := within_in (m := highW b f r o - lowW b f r o + 1) (by omega) (wrap64 (x - lowW b f r o))
  unfold fitsW
  rw [h, Bool.true_and, inB_iff]
  unfold wordF
  omega
theorem ringsF_get {rs : List Int} {n k : Nat} (hk : k < n) : (ringsF rs n).getD k (0, 0) = (20 + 10 * (k : Int), 1 + withinF (rs.getD k 0) 6) := by
  rw [List.getD_eq_getElem?_getD]
  unfold ringsF
  rw [List.getElem?_map, List.getElem?_range hk]; rfl
theorem ringsF_take {rs : List Int} {n k : Nat} (hk : k ≤ n) : (ringsF rs n).take k = ringsF rs k := by
  unfold ringsF
  rw [← List.map_take, List.take_range, Nat.min_eq_left hk]
theorem ringsF_mem {rs : List Int} {n : Nat} {y : Int × Int} (h : y ∈ ringsF rs n) : ∃ k, k < n ∧ y.1 = 20 + 10 * (k : Int) ∧ 1 ≤ y.2 ∧ y.2 ≤ 6 := by
  unfold ringsF at h
  obtain ⟨k, hk, rfl⟩ := List.mem_map.1 h
  have := within_in (m := 6) (by omega) (rs.getD k 0)
  exact ⟨k, List.mem_range.1 hk, rfl, by show 1 ≤ 1 + _; omega, by show 1 + _ ≤ 6; omega⟩
theorem ringsF_ok (rs : List Int) (n : Nat) (hn : n ≤ 3) : ∀ k, k ≤ n → ringsK (ringsF rs n) k = true
  | 0, _ => rfl
  | k + 1, hk => by
    unfold ringsK
    rw [ringsF_ok rs n hn k (by omega), ringsF_get (show k < n by omega), ringsF_take (show k ≤ n by omega)]
    have := within_in (m := 6) (by omega) (rs.getD k 0)
    rw [ringIn_iff.2 (by simp only; omega), Bool.true_and, Bool.true_and, Bool.not_eq_true', Bool.eq_false_iff]
    intro h
    obtain ⟨y, hy, hc⟩ := List.any_eq_true.1 h
    obtain ⟨j, hj, e1, e2, e3⟩ := ringsF_mem hy
    rw [clash_iff] at hc
    simp only at hc
    omega
theorem ringsF_valid (rs : List Int) (n : Nat) (hn : n ≤ 3) : ringsB (ringsF rs n) = true := by
  unfold ringsB
  rw [ringsF_length, ringsF_ok rs n hn n (Nat.le_refl _), decide_eq_true (by omega)]; rfl
theorem ringsF_unused (rs : List Int) (n : Nat) {m : Int} (h : m < 20) : usdB (ringsF rs n) m = false := by
  rw [Bool.eq_false_iff]
  intro h2
  obtain ⟨y, hy, hc⟩ := List.any_eq_true.1 h2
  obtain ⟨j, hj, e1, e2, e3⟩ := ringsF_mem hy
  rw [inR_iff] at hc
  omega
theorem insF_fit {d : PrgD} {op a b y : Int} (ho : 1 ≤ op ∧ op ≤ 11) (ha : 0 ≤ a ∧ a < 1000) (hb : 0 ≤ b) (hy : fitsW d.c0 d.c1 d.c2 d.c3 y = true) (h6 : ∀ x ∈ d.rg, 1 ≤ x.2 ∧ x.2 ≤ 6) (hu : ∀ m, m < 20 → usdB d.rg m = false) :
    fitI d (insF d.rg op a b y) = true ∧ (insF d.rg op a b y).op ≠ 0 := by
  have hc : op = 1 ∨ op = 2 ∨ op = 3 ∨ op = 4 ∨ op = 5 ∨ op = 6 ∨ op = 7 ∨ op = 8 ∨ op = 9 ∨ op = 10 ∨ op = 11 := by omega
  rcases hc with rfl | rfl | rfl | rfl | rfl | rfl | rfl | rfl | rfl | rfl | rfl
  · rw [insF_1]; simp [fitI]
  · rw [insF_2]; simp [fitI, hy]
  · rw [insF_3]; simp [fitI, hy, hu (a % 10) (by omega)]
  · by_cases h0 : d.rg.length = 0
    · rw [insF_40 _ _ _ h0]; simp [fitI]
    · have e0 := Int.emod_nonneg a (show (d.rg.length : Int) ≠ 0 by omega)
      have e1 := Int.emod_lt_of_pos a (show (0 : Int) < d.rg.length by omega)
      obtain ⟨m, hm⟩ := Int.eq_ofNat_of_zero_le e0
      obtain ⟨x, hx⟩ : ∃ x, d.rg[m]? = some x := ⟨_, List.getElem?_eq_getElem (by omega)⟩
      rw [insF_4 rfl (by omega) hm hx]
      have := h6 x (List.mem_of_getElem? hx)
      have := Int.emod_nonneg (a / 10) (show x.2 ≠ 0 by omega)
      have := Int.emod_lt_of_pos (a / 10) (show 0 < x.2 by omega)
      have hml : m < d.rg.length := by omega
      simp [fitI, hy, List.getD_eq_getElem?_getD, hx]
      omega
  · rw [insF_5]; simp [fitI]
  · rw [insF_6]; simp [fitI, hu (b % 10) (by omega)]
  · rw [insF_7]; simp [fitI, hu (b % 10) (by omega)]
  · by_cases h0 : d.rg.length = 0
    · rw [insF_80 _ _ _ h0]; simp [fitI]
    · have e0 := Int.emod_nonneg a (show (d.rg.length : Int) ≠ 0 by omega)
      have e1 := Int.emod_lt_of_pos a (show (0 : Int) < d.rg.length by omega)
      obtain ⟨m, hm⟩ := Int.eq_ofNat_of_zero_le e0
      rw [insF_8 rfl (by omega) hm]
      simp [fitI]; omega
  · rw [insF_9]; simp [fitI]
  · rw [insF_10]; simp [fitI]
  · rw [insF_11]; simp [fitI]
theorem prgF_valid (dn cn : Int) (rs os fs : List Int) (most : Nat) (hm : most ≤ 511) : validB (prgF dn cn rs os fs most) = true := by
  have hfo := prgF_formed dn cn rs os fs most
  have hp := prgF_code_pos dn cn rs os fs most
  have h1 : okWD (prgF dn cn rs os fs most) = true := by
    unfold okWD prgF
    simp only
    rw [mkWD_ok, mkWC_ok]; rfl
  have h2 : ringsB (prgF dn cn rs os fs most).rg = true := ringsF_valid rs _ (by omega)
  unfold validB
  rw [h1, h2, inB_iff.2 (by omega), Bool.true_and, Bool.true_and, Bool.true_and]
  refine List.all_eq_true.2 fun j hj => ?_
  have hj := List.mem_range.1 hj
  unfold goodAt suitB
  have hmem : (prgF dn cn rs os fs most).code.getD j Ins.zero ∈ (prgF dn cn rs os fs most).code := by
    rw [List.getD_eq_getElem?_getD, List.getElem?_eq_getElem hj]
    exact List.getElem_mem hj
  rw [hfo _ hmem, Bool.true_and]
  have hlen : (prgF dn cn rs os fs most).code.length = min os.length most + 1 := by
    unfold prgF
    simp only
    rw [List.length_append, codeK_length]; rfl
  by_cases hl : j < min os.length most
  · have e : (prgF dn cn rs os fs most).code.getD j Ins.zero = insK (mkW cn 6 9 1).1 (mkW cn 6 9 1).2.1 (mkW cn 6 9 1).2.2.1 (mkW cn 6 9 1).2.2.2 (ringsF rs (min rs.length 3)) os fs j := by
      unfold prgF
      simp only
      rw [List.getD_eq_getElem?_getD, List.getElem?_append_left (by rw [codeK_length]; exact hl)]
      unfold codeK
      rw [List.getElem?_map, List.getElem?_range hl]; rfl
    rw [e]
    have hw := within_in (m := 11) (by omega) (os.getD j 0)
    have hw1 := within_in (m := 1000) (by omega) (atF fs (2 * (j : Int)))
    have hw2 := within_in (m := 1048576) (by omega) (atF fs (2 * (j : Int) + 1))
    have hh := insF_fit (d := prgF dn cn rs os fs most) (op := 1 + withinF (os.getD j 0) 11) (a := withinF (atF fs (2 * (j : Int))) 1000) (b := withinF (atF fs (2 * (j : Int) + 1)) 1048576) (y := wordF (mkW cn 6 9 1).1 (mkW cn 6 9 1).2.1 (mkW cn 6 9 1).2.2.1 (mkW cn 6 9 1).2.2.2 (withinF (atF fs (2 * (j : Int) + 1)) 1048576 - 524288)) (by omega) hw1 hw2.1 (fits_wordF (mkWC_ok cn) _) (ringsF_six rs _) (fun m hm => ringsF_unused rs _ hm)
    unfold insK
    have h3 : (prgF dn cn rs os fs most).rg = ringsF rs (min rs.length 3) := rfl
    rw [h3] at hh
    rw [hh.1, Bool.true_and, decide_eq_false hh.2, hlen, decide_eq_false (by omega)]; rfl
  · have e : (prgF dn cn rs os fs most).code.getD j Ins.zero = ⟨0, 0, 0, 0⟩ := by
      have hj2 : j = min os.length most := by omega
      unfold prgF
      simp only
      rw [List.getD_eq_getElem?_getD, List.getElem?_append_right (by rw [codeK_length]; omega), codeK_length, hj2, Nat.sub_self]; rfl
    rw [e, hlen, decide_eq_true (show j + 1 = min os.length most + 1 by omega)]
    simp [fitI]
end Go.Proofs.YtpmbgcfnehplaaaDoor
