/- Plain lists: when phases can be merged. -/
import Derived.Test.YthalkhpdcijlkaaMq
namespace Go.Proofs.Ythalkhpdcijlkaa
open Go.RowKit

def sumC (m n : Nat) : Nat → Nat
  | 0 => 0
  | k + 1 => sumC m n k + cnt n k m
theorem cnt_next {m n j : Nat} (hm : 1 ≤ m) (hj : j < m) : cnt (n + 1) j m = cnt n j m + if n % m = j then 1 else 0 := by
  have key : ∀ a b : Nat, (∀ k, k < a ↔ k < b) → a = b := fun a b h => by
    rcases Nat.lt_trichotomy a b with h1 | h1 | h1
    · have := (h a).2 h1; omega
    · exact h1
    · have := (h b).1 h1; omega
  have hd := Nat.mod_add_div n m
  apply key
  intro k
  rw [← cnt_iff hm]
  by_cases e : n % m = j
  · rw [if_pos e]
    have hc : cnt n j m = n / m := by
      apply key
      intro q
      rw [← cnt_iff hm]
      rw [e] at hd
      constructor
      · intro h
        have : q * m < n / m * m := by rw [Nat.mul_comm (n / m)]; omega
        exact Nat.lt_of_mul_lt_mul_right this
      · intro h
        have : (q + 1) * m ≤ n / m * m := Nat.mul_le_mul_right _ h
        rw [Nat.add_mul, Nat.mul_comm (n / m)] at this
        omega
    rw [hc]
    rw [e] at hd
    constructor
    · intro h
      rcases Nat.lt_or_ge k (n / m + 1) with h1 | h1
      · exact h1
      · have : (n / m + 1) * m ≤ k * m := Nat.mul_le_mul_right _ h1
        rw [Nat.add_mul, Nat.mul_comm (n / m)] at this
        omega
    · intro h
      have : k * m ≤ n / m * m := Nat.mul_le_mul_right _ (by omega)
      rw [Nat.mul_comm (n / m)] at this
      omega
  · rw [if_neg e]
    show _ ↔ k < cnt n j m
    rw [← cnt_iff hm]
    constructor
    · intro h
      rcases Nat.lt_or_ge (j + k * m) n with h1 | h1
      · exact h1
      · exfalso
        have hn : n = j + k * m := by omega
        apply e
        rw [hn, Nat.add_mul_mod_self_right, Nat.mod_eq_of_lt hj]
    · intro h; omega
theorem sumC_next {m n : Nat} (hm : 1 ≤ m) : ∀ k, k ≤ m → sumC m (n + 1) k = sumC m n k + if n % m < k then 1 else 0 := by
  intro k
  induction k with
  | zero => intro _; simp [sumC]
  | succ k ih =>
    intro hk
    have := ih (by omega)
    unfold sumC
    rw [this, cnt_next hm (by omega)]
    by_cases h1 : n % m < k
    · rw [if_pos h1, if_neg (by omega), if_pos (by omega)]; omega
    · by_cases h2 : n % m = k
      · rw [if_neg h1, if_pos h2, if_pos (by omega)]; omega
      · rw [if_neg h1, if_neg h2, if_neg (by omega)]; omega
theorem sumC_all {m : Nat} (hm : 1 ≤ m) : ∀ n, sumC m n m = n := by
  intro n
  induction n with
  | zero =>
    have : ∀ k, sumC m 0 k = 0 := by
      intro k
      induction k with
      | zero => rfl
      | succ k ih => unfold sumC; rw [ih]; unfold cnt; rw [Nat.div_eq_of_lt (by omega)]
    exact this m
  | succ n ih =>
    rw [sumC_next hm m (Nat.le_refl _), ih, if_pos (Nat.mod_lt _ (by omega))]
/-- All phases at least as long as they must be, and the sum fits: all are as long as they must be. -/
theorem fits_all {p : List (List Int)} (hm : 1 ≤ p.length) (h : ∀ i, i < total p → i / p.length < (p[i % p.length]?.getD []).length) :
    ∀ j, j < p.length → (p[j]?.getD []).length = cnt (total p) j p.length := by
  have hge : ∀ j, j < p.length → cnt (total p) j p.length ≤ (p[j]?.getD []).length := by
    intro j hj
    rcases Nat.lt_or_ge (p[j]?.getD []).length (cnt (total p) j p.length) with hlt | hge
    · exfalso
      have h1 := (cnt_iff (n := total p) (fr := j) (k := (p[j]?.getD []).length) hm).2 hlt
      have h2 := h _ h1
      have e1 : (j + (p[j]?.getD []).length * p.length) % p.length = j := by rw [Nat.add_mul_mod_self_right, Nat.mod_eq_of_lt hj]
      have e2 : (j + (p[j]?.getD []).length * p.length) / p.length = (p[j]?.getD []).length := by
        rw [Nat.add_mul_div_right _ _ (by omega), Nat.div_eq_of_lt hj]; omega
      rw [e1, e2] at h2
      omega
    · exact hge
  have hsum := sumC_all hm (total p)
  have key : ∀ k, k ≤ p.length → sumC p.length (total p) k ≤ total (p.take k) ∧ (sumC p.length (total p) k = total (p.take k) → ∀ j, j < k → (p[j]?.getD []).length = cnt (total p) j p.length) := by
    intro k
    induction k with
    | zero => intro _; exact ⟨by simp [sumC], fun _ j hj => by omega⟩
    | succ k ih =>
      intro hk
      obtain ⟨i1, i2⟩ := ih (by omega)
      have hg := hge k (by omega)
      have hs : total (p.take (k + 1)) = total (p.take k) + (p[k]?.getD []).length := by
        have hpk : p[k]? = some p[k] := List.getElem?_eq_getElem (by omega)
        rw [sum_take_succ hpk, hpk]; rfl
      rw [hs]
      unfold sumC
      refine ⟨by omega, fun he j hj => ?_⟩
      rcases Nat.lt_or_ge j k with h1 | h1
      · exact i2 (by omega) j h1
      · obtain rfl : j = k := by omega
        omega
  have := (key p.length (Nat.le_refl _)).2 (by rw [hsum, List.take_length])
  exact this
/-- .. and back. -/
theorem fits_back {p : List (List Int)} (hm : 1 ≤ p.length) (h : ∀ j, j < p.length → (p[j]?.getD []).length = cnt (total p) j p.length) {i : Nat} (hi : i < total p) : i / p.length < (p[i % p.length]?.getD []).length := by
  rw [h _ (Nat.mod_lt _ (by omega)), ← cnt_iff hm]
  have := Nat.mod_add_div i p.length
  rw [Nat.mul_comm] at this
  omega
/-- The first t elements of the merge. -/
def mgN (p : List (List Int)) (t : Nat) : List Int := (List.range t).map fun i => (p[i % p.length]?.getD [])[i / p.length]?.getD 0
theorem mgN_length (p : List (List Int)) (t : Nat) : (mgN p t).length = t := by simp [mgN]
theorem mgN_succ {p : List (List Int)} {t : Nat} {l : List Int} {y : Int} (h1 : p[t % p.length]? = some l) (h2 : l[t / p.length]? = some y) : mgN p (t + 1) = mgN p t ++ [y] := by
  simp [mgN, List.range_succ, h1, h2]
theorem mgN_all (p : List (List Int)) : mgN p (total p) = mergeF p := by
  unfold mgN mergeF mergeN
  apply List.map_congr_left
  intro i hi
  rw [if_pos (List.mem_range.1 hi)]
theorem total_ge {p : List (List Int)} {l : List Int} (h : l ∈ p) : l.length ≤ total p := by
  induction p with
  | nil => cases h
  | cons a t ih =>
    rcases List.mem_cons.1 h with rfl | h
    · simp [total]
    · have := ih h; simp [total] at this ⊢; omega
end Go.Proofs.Ythalkhpdcijlkaa
