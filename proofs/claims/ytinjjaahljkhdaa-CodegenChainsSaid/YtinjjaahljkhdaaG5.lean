/- The plain form of the loops of the reference's Chains. -/
import Derived.Test.YtinjjaahljkhdaaG4
namespace Go.Proofs.Ytinjjaahljkhdaa
open Go.RowKit

/-- The first state from j on that follows a, or -1. -/
def bhI (nx : List Int) (j a : Nat) : Int := match (nx.drop j).findIdx? (fun v => v == (a : Int) + 1) with | some i => ((j + i : Nat) : Int) | none => -1
theorem bhI_zero (nx : List Int) (a : Nat) : bhI nx 0 a = follI nx a := by
  unfold bhI follI idxV
  rw [List.drop_zero]
  cases nx.findIdx? (fun v => v == (a : Int) + 1) with
  | none => rfl
  | some i => simp
theorem bhI_end {nx : List Int} {j a : Nat} (h : nx.length ≤ j) : bhI nx j a = -1 := by
  unfold bhI
  rw [List.drop_of_length_le h]; rfl
theorem bhI_step {nx : List Int} {J a : Nat} {v : Int} (h : nx[J]? = some v) : bhI nx J a = if v = (a : Int) + 1 then (J : Int) else bhI nx (J + 1) a := by
  obtain ⟨hJ, h1⟩ := List.getElem?_eq_some_iff.1 h
  unfold bhI
  rw [List.drop_eq_getElem_cons hJ, h1, List.findIdx?_cons]
  by_cases e : v = (a : Int) + 1
  · rw [if_pos e]
    have : (v == (a : Int) + 1) = true := by simpa using e
    rw [this]; simp
  · rw [if_neg e]
    have : (v == (a : Int) + 1) = false := by simpa using e
    rw [this]
    simp only [Bool.false_eq_true, if_false]
    cases (nx.drop (J + 1)).findIdx? (fun v => v == (a : Int) + 1) with
    | none => rfl
    | some i =>
      simp only [Option.map_some]
      show ((J + (i + 1) : Nat) : Int) = ((J + 1 + i : Nat) : Int)
      congr 1; omega
def bhN (nx : List Int) (S j : Nat) : List Int := (List.range S).map (bhI nx j)
theorem bhN_length (nx : List Int) (S j : Nat) : (bhN nx S j).length = S := by simp [bhN]
theorem bhN_get {nx : List Int} {S j i : Nat} (h : i < S) : (bhN nx S j)[i]? = some (bhI nx j i) := by
  unfold bhN
  rw [List.getElem?_map, List.getElem?_range h]; rfl
theorem bhN_end {nx : List Int} {S j : Nat} (h : nx.length ≤ j) : bhN nx S j = List.replicate S (-1) := by
  apply List.ext_getElem?
  intro i
  rcases Nat.lt_or_ge i S with h1 | h1
  · rw [bhN_get h1, bhI_end h, List.getElem?_replicate, if_pos h1]
  · rw [List.getElem?_eq_none (by rw [bhN_length]; exact h1), List.getElem?_eq_none (by simpa using h1)]
theorem bhN_zero (nx : List Int) (S : Nat) : bhN nx S 0 = foN nx S S := by
  unfold bhN foN
  refine List.map_congr_left fun a ha => ?_
  rw [bhI_zero, if_pos (List.mem_range.1 ha)]
theorem bhN_in {nx : List Int} {S J c : Nat} {v : Int} (h : nx[J]? = some v) (hc : v - 1 = (c : Int)) (hS : c < S) : bhN nx S J = (bhN nx S (J + 1)).set c (J : Int) := by
  apply List.ext_getElem?
  intro i
  rw [List.getElem?_set, bhN_length]
  rcases Nat.lt_or_ge i S with h1 | h1
  · rw [bhN_get h1, bhI_step h]
    by_cases e : c = i
    · subst e
      rw [if_pos (by omega), if_pos rfl, if_pos hS]
    · rw [if_neg (by omega), if_neg e, bhN_get h1]
  · rw [List.getElem?_eq_none (by rw [bhN_length]; exact h1), if_neg (by omega), List.getElem?_eq_none (by rw [bhN_length]; exact h1)]
theorem bhN_out {nx : List Int} {S J : Nat} {v : Int} (h : nx[J]? = some v) (hv : ¬ (0 ≤ v - 1 ∧ v - 1 ≤ (S : Int) - 1)) : bhN nx S J = bhN nx S (J + 1) := by
  unfold bhN
  refine List.map_congr_left fun a ha => ?_
  have := List.mem_range.1 ha
  rw [bhI_step h, if_neg (by omega)]
/-- The row of -1 while it is filled. -/
def mnN (S k : Nat) : List Int := (List.range S).map fun a => if a < k then -1 else 0
theorem mnN_length (S k : Nat) : (mnN S k).length = S := by simp [mnN]
theorem mnN_get {S k i : Nat} (h : i < S) : (mnN S k)[i]? = some (if i < k then -1 else 0) := by
  unfold mnN
  rw [List.getElem?_map, List.getElem?_range h]; rfl
theorem mnN_zero (S : Nat) : mnN S 0 = List.replicate S 0 := by
  apply List.ext_getElem?
  intro i
  rcases Nat.lt_or_ge i S with h1 | h1
  · rw [mnN_get h1, List.getElem?_replicate, if_pos h1]; simp
  · rw [List.getElem?_eq_none (by rw [mnN_length]; exact h1), List.getElem?_eq_none (by simpa using h1)]
theorem mnN_end (S : Nat) : mnN S S = List.replicate S (-1) := by
  apply List.ext_getElem?
  intro i
  rcases Nat.lt_or_ge i S with h1 | h1
  · rw [mnN_get h1, if_pos h1, List.getElem?_replicate, if_pos h1]
  · rw [List.getElem?_eq_none (by rw [mnN_length]; exact h1), List.getElem?_eq_none (by simpa using h1)]
theorem mnN_succ {S k : Nat} (h : k < S) : mnN S (k + 1) = (mnN S k).set k (-1) := by
  apply List.ext_getElem?
  intro i
  rw [List.getElem?_set, mnN_length]
  rcases Nat.lt_or_ge i S with h1 | h1
  · rw [mnN_get h1]
    by_cases e : k = i
    · subst e
      rw [if_pos rfl, if_pos h, if_pos (by omega)]
    · rw [if_neg e, mnN_get h1]
      by_cases h2 : i < k
      · rw [if_pos h2, if_pos (by omega)]
      · rw [if_neg h2, if_neg (by omega)]
  · rw [List.getElem?_eq_none (by rw [mnN_length]; exact h1), if_neg (by omega), List.getElem?_eq_none (by rw [mnN_length]; exact h1)]
end Go.Proofs.Ytinjjaahljkhdaa
