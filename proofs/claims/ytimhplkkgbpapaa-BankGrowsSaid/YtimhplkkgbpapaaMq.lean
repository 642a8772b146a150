/- Plain lists: the phases of a list, and their merge. -/
import Derived.Test.YtimhplkkgbpapaaMp
namespace Go.Proofs.Ytimhplkkgbpapaa
open Go.RowKit

/-- The first k phases of m. -/
def phN (x : List Int) (m k : Nat) : List (List Int) := (List.range m).map fun i => if i < k then everyF x i m else []
def phF (x : List Int) (m : Nat) : List (List Int) := phN x m m
def phV (x : List Int) (m : Int) : List (List Int) := if downE x.length m = 0 then phF x m.toNat else []
theorem phN_length (x : List Int) (m k : Nat) : (phN x m k).length = m := by simp [phN]
theorem phN_zero (x : List Int) (m : Nat) : phN x m 0 = List.replicate m [] := by
  apply List.ext_getElem?
  intro i
  simp only [phN, List.getElem?_map, List.getElem?_replicate]
  rcases Nat.lt_or_ge i m with h | h
  · rw [List.getElem?_range h]; simp [h]
  · rw [List.getElem?_eq_none (by simpa using h)]; simp; omega
theorem phN_at {x : List Int} {m k : Nat} (h : k < m) : (phN x m k)[k]? = some [] := by
  simp only [phN, List.getElem?_map, List.getElem?_range h]; simp
theorem phN_succ {x : List Int} {m k : Nat} (h : k < m) : phN x m (k + 1) = (phN x m k).set k (everyF x k m) := by
  apply List.ext_getElem?
  intro i
  rw [List.getElem?_set]
  simp only [phN, List.getElem?_map, List.length_map, List.length_range]
  by_cases e : k = i
  · subst e; rw [if_pos rfl, if_pos h, List.getElem?_range h]; simp
  · rw [if_neg e]
    rcases Nat.lt_or_ge i m with hi | hi
    · rw [List.getElem?_range hi]
      simp only [Option.map_some]
      by_cases h1 : i < k
      · rw [if_pos (by omega), if_pos h1]
      · rw [if_neg (by omega), if_neg h1]
    · rw [List.getElem?_eq_none (by simpa using hi)]; rfl
theorem phV_of {x : List Int} {l : Nat} (h : downE x.length l = 0) : phV x l = phF x l := by unfold phV; rw [if_pos h, Int.toNat_natCast]
theorem phV_no {x : List Int} {l : Int} (h : downE x.length l ≠ 0) : phV x l = [] := by unfold phV; rw [if_neg h]

/-- The number of all elements. -/
def total (p : List (List Int)) : Nat := (p.map List.length).sum
def mergeE (p : List (List Int)) : Int := if inB p.length 1 12 = true then (if 4096 < total p then 4 else if (∀ j, j < p.length → (p[j]?.getD []).length = cnt (total p) j p.length) then 0 else 1) else 20
def mergeN (p : List (List Int)) (k : Nat) : List Int := (List.range (total p)).map fun i => if i < k then (p[i % p.length]?.getD [])[i / p.length]?.getD 0 else 0
def mergeF (p : List (List Int)) : List Int := mergeN p (total p)
def mergeV (p : List (List Int)) : List Int := if mergeE p = 0 then mergeF p else []
theorem mergeN_length (p : List (List Int)) (k : Nat) : (mergeN p k).length = total p := by simp [mergeN]
theorem mergeN_zero (p : List (List Int)) : mergeN p 0 = List.replicate (total p) 0 := by
  apply List.ext_getElem?
  intro i
  simp only [mergeN, List.getElem?_map, List.getElem?_replicate]
  rcases Nat.lt_or_ge i (total p) with h | h
  · rw [List.getElem?_range h]; simp [h]
  · rw [List.getElem?_eq_none (by simpa using h)]; simp; omega
theorem mergeN_succ {p : List (List Int)} {k : Nat} {l : List Int} {y : Int} (h : k < total p) (h1 : p[k % p.length]? = some l) (h2 : l[k / p.length]? = some y) : mergeN p (k + 1) = (mergeN p k).set k y := by
  apply List.ext_getElem?
  intro i
  rw [List.getElem?_set]
  simp only [mergeN, List.getElem?_map, List.length_map, List.length_range]
  by_cases e : k = i
  · subst e; rw [if_pos rfl, if_pos h, List.getElem?_range h]; simp [h1, h2]
  · rw [if_neg e]
    rcases Nat.lt_or_ge i (total p) with hi | hi
    · rw [List.getElem?_range hi]
      simp only [Option.map_some]
      by_cases h1 : i < k
      · rw [if_pos (by omega), if_pos h1]
      · rw [if_neg (by omega), if_neg h1]
    · rw [List.getElem?_eq_none (by simpa using hi)]; rfl
theorem sum_take_succ {p : List (List Int)} {k : Nat} {l : List Int} (h : p[k]? = some l) : total (p.take (k + 1)) = total (p.take k) + l.length := by
  unfold total; rw [List.take_add_one, h]; simp
theorem total_le {p : List (List Int)} {B : Nat} (h : ∀ l ∈ p, l.length ≤ B) : total p ≤ p.length * B := by
  induction p with
  | nil => simp [total]
  | cons a t ih =>
    have h1 := h a (by simp)
    have h2 := ih (fun l hl => h l (by simp [hl]))
    simp [total] at h2 ⊢
    rw [Nat.add_mul]; omega
theorem total_take_le (p : List (List Int)) (k : Nat) : total (p.take k) ≤ total p := by
  have : total p = total (p.take k) + total (p.drop k) := by
    unfold total; rw [← List.sum_append, ← List.map_append, List.take_append_drop]
  omega
end Go.Proofs.Ytimhplkkgbpapaa
