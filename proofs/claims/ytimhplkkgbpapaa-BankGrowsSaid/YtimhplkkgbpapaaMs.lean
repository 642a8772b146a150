/- Plain lists: expansion. -/
import Derived.Test.YtimhplkkgbpapaaMq
namespace Go.Proofs.Ytimhplkkgbpapaa
open Go.RowKit

/-- The first k elements, with m - 1 zeros between neighbours. -/
def exLen (m k : Nat) : Nat := if k = 0 then 0 else (k - 1) * m + 1
def exN (x : List Int) (m k : Nat) : List Int := (List.range (exLen m k)).map fun i => if i % m = 0 then x[i / m]?.getD 0 else 0
def expF (x : List Int) (m : Nat) : List Int := exN x m x.length
/-- The same length throughout, of the first k elements only. -/
def gridN (x : List Int) (m k : Nat) : List Int := (List.range (exLen m x.length)).map fun i => if i % m = 0 ∧ i / m < k then x[i / m]?.getD 0 else 0
def expE (n : Nat) (m : Int) : Int := if (inB m 1 12) = true then (if 4096 < n ∨ 4096 < ((n : Int) - 1) * m + 1 then 4 else 0) else 20
def expV (x : List Int) (m : Int) : List Int := if expE x.length m = 0 then expF x m.toNat else []
theorem expV_of {x : List Int} {l : Nat} (h : expE x.length l = 0) : expV x l = expF x l := by unfold expV; rw [if_pos h, Int.toNat_natCast]
theorem expV_no {x : List Int} {l : Int} (h : expE x.length l ≠ 0) : expV x l = [] := by unfold expV; rw [if_neg h]
theorem exN_length (x : List Int) (m k : Nat) : (exN x m k).length = exLen m k := by simp [exN]
theorem gridN_length (x : List Int) (m k : Nat) : (gridN x m k).length = exLen m x.length := by simp [gridN]
theorem exLen_succ {m k : Nat} (hm : 1 ≤ m) (hk : 1 ≤ k) : exLen m (k + 1) = exLen m k + (m - 1) + 1 := by
  unfold exLen
  rw [if_neg (by omega), if_neg (by omega)]
  obtain ⟨j, rfl⟩ : ∃ j, k = j + 1 := ⟨k - 1, by omega⟩
  simp only [Nat.add_sub_cancel]
  rw [Nat.add_mul]; omega
theorem gridN_zero (x : List Int) (m : Nat) : gridN x m 0 = List.replicate (exLen m x.length) 0 := by
  apply List.ext_getElem?
  intro i
  simp only [gridN, List.getElem?_map, List.getElem?_replicate]
  rcases Nat.lt_or_ge i (exLen m x.length) with h | h
  · rw [List.getElem?_range h]; simp [h]
  · rw [List.getElem?_eq_none (by simpa using h)]; simp; omega
theorem exLen_lt {m k n : Nat} (hk : k < n) : k * m < exLen m n := by
  unfold exLen
  rw [if_neg (by omega)]
  have : k * m ≤ (n - 1) * m := Nat.mul_le_mul_right _ (by omega)
  omega
theorem gridN_succ {x : List Int} {m k : Nat} {y : Int} (hm : 1 ≤ m) (hk : x[k]? = some y) : gridN x m (k + 1) = (gridN x m k).set (k * m) y := by
  have hkl := (List.getElem?_eq_some_iff.1 hk).1
  have hlt := exLen_lt (m := m) hkl
  apply List.ext_getElem?
  intro i
  rw [List.getElem?_set]
  simp only [gridN, List.getElem?_map, List.length_map, List.length_range]
  rcases Nat.lt_or_ge i (exLen m x.length) with h | h
  · rw [List.getElem?_range h]
    simp only [Option.map_some]
    by_cases e : k * m = i
    · subst e
      rw [if_pos rfl, if_pos hlt]
      have e1 : k * m % m = 0 := Nat.mul_mod_left k m
      have e2 : k * m / m = k := Nat.mul_div_cancel _ (by omega)
      rw [e1, e2, if_pos ⟨rfl, by omega⟩, hk]; rfl
    · rw [if_neg e]
      congr 1
      by_cases hmm : i % m = 0
      · have hd := Nat.div_add_mod i m
        rw [hmm, Nat.add_zero, Nat.mul_comm] at hd
        have hne : i / m ≠ k := fun h => e (by rw [← h]; exact hd)
        simp only [hmm, true_and]
        by_cases h1 : i / m < k
        · rw [if_pos (by omega), if_pos h1]
        · rw [if_neg (by omega), if_neg h1]
      · simp [hmm]
  · have hr : (List.range (exLen m x.length))[i]? = none := List.getElem?_eq_none (by simpa using h)
    rw [if_neg (by omega), hr]; rfl
theorem gridN_all {x : List Int} {m : Nat} (hm : 1 ≤ m) : gridN x m x.length = expF x m := by
  apply List.ext_getElem?
  intro i
  simp only [gridN, expF, exN, List.getElem?_map]
  rcases Nat.lt_or_ge i (exLen m x.length) with h | h
  · rw [List.getElem?_range h]
    simp only [Option.map_some]
    have hd : i / m < x.length := by
      unfold exLen at h
      split at h
      · omega
      · have h2 : i / m < x.length - 1 + 1 := by
          rw [Nat.div_lt_iff_lt_mul (by omega), Nat.add_mul]; omega
        omega
    simp [hd]
  · rw [List.getElem?_eq_none (by simpa using h)]; rfl
theorem exN_one {x : List Int} {m : Nat} {y : Int} (h : x[0]? = some y) : exN x m 1 = [y] := by
  simp [exN, exLen, h]
theorem exN_succ {x : List Int} {m k : Nat} {y : Int} (hm : 1 ≤ m) (hk : 1 ≤ k) (h : x[k]? = some y) : exN x m (k + 1) = exN x m k ++ List.replicate (m - 1) 0 ++ [y] := by
  have hl := exLen_succ hm hk
  have e0 : exLen m k = (k - 1) * m + 1 := by unfold exLen; rw [if_neg (by omega)]
  have ek : k * m = (k - 1) * m + m := by
    obtain ⟨j, rfl⟩ : ∃ j, k = j + 1 := ⟨k - 1, by omega⟩
    rw [Nat.add_sub_cancel, Nat.add_mul]; omega
  apply List.ext_getElem?
  intro i
  simp only [exN, List.getElem?_map, List.getElem?_append, List.length_append, List.length_map, List.length_range, List.length_replicate, List.getElem?_replicate]
  by_cases h1 : i < exLen m k
  · rw [List.getElem?_range (by omega), List.getElem?_range h1, if_pos (by omega), if_pos h1]
  · by_cases h2 : i < exLen m k + (m - 1)
    · rw [List.getElem?_range (by omega), if_pos h2, if_neg h1, if_pos (by omega)]
      simp only [Option.map_some]
      congr 1
      rw [if_neg]
      intro hc
      obtain ⟨j, rfl⟩ := Nat.dvd_of_mod_eq_zero hc
      have a1 : (k - 1) * m < j * m := by rw [Nat.mul_comm j]; omega
      have a2 : j * m < k * m := by rw [Nat.mul_comm j]; omega
      have b1 := Nat.lt_of_mul_lt_mul_right a1
      have b2 := Nat.lt_of_mul_lt_mul_right a2
      omega
    · by_cases h3 : i < exLen m (k + 1)
      · have hi : i = k * m := by omega
        subst hi
        rw [List.getElem?_range h3, if_neg h2]
        simp only [Option.map_some, Nat.mul_mod_left, if_true]
        rw [Nat.mul_div_cancel _ (by omega), h, show k * m - (exLen m k + (m - 1)) = 0 by omega]
        rfl
      · rw [List.getElem?_eq_none (by simpa using h3), if_neg h2]
        simp
        omega
end Go.Proofs.Ytimhplkkgbpapaa
