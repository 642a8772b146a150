/- Plain lists: raising and lowering the rate, phases, expansion. No program in sight. -/
import Derived.Test.YtimhplkkgbpapaaPl
namespace Go.Proofs.Ytimhplkkgbpapaa
open Go.RowKit

/-- Raised by l, of the first k elements only (the others are still 0). -/
def upN (x : List Int) (l k : Nat) : List Int := (List.range (l * x.length)).map fun i => if i % l = 0 ∧ i / l < k then x[i / l]?.getD 0 else 0
def upF (x : List Int) (l : Nat) : List Int := upN x l x.length
theorem upN_length (x : List Int) (l k : Nat) : (upN x l k).length = l * x.length := by simp [upN]
theorem upN_zero (x : List Int) (l : Nat) : upN x l 0 = List.replicate (l * x.length) 0 := by
  apply List.ext_getElem?
  intro i
  simp only [upN, List.getElem?_map, List.getElem?_replicate]
  rcases Nat.lt_or_ge i (l * x.length) with h | h
  · rw [List.getElem?_range h]; simp [h]
  · rw [List.getElem?_eq_none (by simpa using h)]; simp; omega
theorem upN_succ {x : List Int} {l k : Nat} {y : Int} (hl : 1 ≤ l) (hk : x[k]? = some y) : upN x l (k + 1) = (upN x l k).set (k * l) y := by
  have hkl := (List.getElem?_eq_some_iff.1 hk).1
  have hlt : k * l < l * x.length := by rw [Nat.mul_comm l]; exact Nat.mul_lt_mul_of_pos_right hkl (by omega)
  apply List.ext_getElem?
  intro i
  rw [List.getElem?_set]
  simp only [upN, List.getElem?_map, List.length_map, List.length_range]
  rcases Nat.lt_or_ge i (l * x.length) with h | h
  · rw [List.getElem?_range h]
    simp only [Option.map_some]
    by_cases e : k * l = i
    · subst e
      rw [if_pos rfl, if_pos hlt]
      have e1 : k * l % l = 0 := Nat.mul_mod_left k l
      have e2 : k * l / l = k := Nat.mul_div_cancel _ (by omega)
      rw [e1, e2, if_pos ⟨rfl, by omega⟩, hk]; rfl
    · rw [if_neg e]
      congr 1
      by_cases hm : i % l = 0
      · have hd := Nat.div_add_mod i l
        rw [hm, Nat.add_zero, Nat.mul_comm] at hd
        have hne : i / l ≠ k := fun h => e (by rw [← h]; exact hd)
        simp only [hm, true_and]
        by_cases h1 : i / l < k
        · rw [if_pos (by omega), if_pos h1]
        · rw [if_neg (by omega), if_neg h1]
      · simp [hm]
  · have hr : (List.range (l * x.length))[i]? = none := List.getElem?_eq_none (by simpa using h)
    rw [if_neg (by omega), hr]; rfl

/-- The elements with the indices from, from + m and so on. -/
def cnt (n fr m : Nat) : Nat := (n - fr + m - 1) / m
def everyN (x : List Int) (fr m k : Nat) : List Int := (List.range k).map fun i => x[fr + i * m]?.getD 0
def everyF (x : List Int) (fr m : Nat) : List Int := everyN x fr m (cnt x.length fr m)
theorem everyN_succ {x : List Int} {fr m k : Nat} {y : Int} (h : x[fr + k * m]? = some y) : everyN x fr m (k + 1) = everyN x fr m k ++ [y] := by
  simp [everyN, List.range_succ, h]
theorem everyN_length (x : List Int) (fr m k : Nat) : (everyN x fr m k).length = k := by simp [everyN]
theorem cnt_iff {n fr m k : Nat} (hm : 1 ≤ m) : fr + k * m < n ↔ k < cnt n fr m := by
  unfold cnt
  have h1 : k < (n - fr + m - 1) / m ↔ k + 1 ≤ (n - fr + m - 1) / m := by omega
  rw [h1, Nat.le_div_iff_mul_le (by omega), Nat.add_mul]
  omega
theorem cnt_le (n fr m : Nat) (hm : 1 ≤ m) : cnt n fr m ≤ n := by
  rcases Nat.lt_or_ge n (cnt n fr m) with h | h
  · have := (cnt_iff (n := n) (fr := fr) (k := n) hm).2 h
    have : n * 1 ≤ n * m := Nat.mul_le_mul_left n hm
    omega
  · exact h

/-- Errors of changes of the rate. -/
def upE (n : Nat) (l : Int) : Int := if (inB l 1 12) = true then (if 4096 < n ∨ 4096 < l * n then 4 else 0) else 20
def downE (n : Nat) (m : Int) : Int := if (inB m 1 12) = true then (if 4096 < n then 4 else 0) else 20
def upV (x : List Int) (l : Int) : List Int := if upE x.length l = 0 then upF x l.toNat else []
def downV (x : List Int) (m : Int) : List Int := if downE x.length m = 0 then everyF x 0 m.toNat else []
theorem upV_of {x : List Int} {l : Nat} (h : upE x.length l = 0) : upV x l = upF x l := by unfold upV; rw [if_pos h, Int.toNat_natCast]
theorem upV_no {x : List Int} {l : Int} (h : upE x.length l ≠ 0) : upV x l = [] := by unfold upV; rw [if_neg h]
theorem downV_of {x : List Int} {l : Nat} (h : downE x.length l = 0) : downV x l = everyF x 0 l := by unfold downV; rw [if_pos h, Int.toNat_natCast]
theorem downV_no {x : List Int} {l : Int} (h : downE x.length l ≠ 0) : downV x l = [] := by unfold downV; rw [if_neg h]
end Go.Proofs.Ytimhplkkgbpapaa
