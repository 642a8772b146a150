/- Plain laws of raising and lowering. -/
import Derived.Test.YtimhplkkgbpapaaMq
namespace Go.Proofs.Ytimhplkkgbpapaa
open Go.RowKit

def exB0 (x : List Int) (l m : Nat) : Bool := everyF (upF x l) 0 m == upF (everyF x 0 m) l
theorem upF_get (x : List Int) (l i : Nat) : (upF x l)[i]? = if i < l * x.length then some (if i % l = 0 then x[i / l]?.getD 0 else 0) else none := by
  unfold upF upN
  rw [List.getElem?_map]
  by_cases h : i < l * x.length
  · rw [List.getElem?_range h, if_pos h]
    have hd : i / l < x.length := (Nat.div_lt_iff_lt_mul (by rcases Nat.eq_zero_or_pos l with h0 | h0; (subst h0; simp at h); exact h0)).2 (by rw [Nat.mul_comm]; exact h)
    simp [hd]
  · rw [if_neg h, List.getElem?_eq_none (by simpa using h)]; rfl
theorem everyF_get {x : List Int} {fr m : Nat} (hm : 1 ≤ m) (i : Nat) : (everyF x fr m)[i]? = x[fr + i * m]? := by
  unfold everyF everyN
  rw [List.getElem?_map]
  by_cases h : i < cnt x.length fr m
  · rw [List.getElem?_range h]
    have := (cnt_iff (n := x.length) (fr := fr) (k := i) hm).2 h
    simp [List.getElem?_eq_getElem this]
  · have h2 : ¬ fr + i * m < x.length := fun hc => h ((cnt_iff hm).1 hc)
    rw [List.getElem?_eq_none (by simpa using h), List.getElem?_eq_none (by omega)]; rfl
theorem cnt_mul {m k : Nat} (hm : 1 ≤ m) : cnt (m * k) 0 m = k := by
  unfold cnt
  rw [Nat.sub_zero, show m * k + m - 1 = m - 1 + m * k by omega, Nat.add_mul_div_left _ _ (by omega), Nat.div_eq_of_lt (by omega)]
  omega
theorem up_up (x : List Int) {a b : Nat} (_ha : 1 ≤ a) (hb : 1 ≤ b) : upF (upF x a) b = upF x (a * b) := by
  apply List.ext_getElem?
  intro i
  rw [upF_get (upF x a) b, upF_get x (a * b), upF_get x a, show (upF x a).length = a * x.length from upN_length _ _ _]
  rw [show b * (a * x.length) = a * b * x.length by rw [← Nat.mul_assoc, Nat.mul_comm b a]]
  by_cases h : i < a * b * x.length
  · rw [if_pos h, if_pos h]
    congr 1
    have h1 : i / b < a * x.length := (Nat.div_lt_iff_lt_mul (by omega)).2 (by rw [Nat.mul_assoc, Nat.mul_comm b, ← Nat.mul_assoc] at h; exact h)
    rw [if_pos h1, Nat.div_div_eq_div_mul, Nat.mul_comm b a]
    have hm : i % (a * b) = i % b + b * (i / b % a) := by rw [Nat.mul_comm, Nat.mod_mul]
    by_cases h2 : i % b = 0
    · rw [if_pos h2]
      simp only [Option.getD_some]
      by_cases h3 : i / b % a = 0
      · rw [if_pos h3, if_pos (by rw [hm, h2, h3]; simp)]
      · rw [if_neg h3, if_neg]
        rw [hm, h2, Nat.zero_add]
        exact Nat.ne_of_gt (Nat.mul_pos (by omega) (by omega))
    · rw [if_neg h2, if_neg (by rw [hm]; omega)]
  · rw [if_neg h, if_neg h]
theorem every_every (x : List Int) {a b : Nat} (ha : 1 ≤ a) (hb : 1 ≤ b) : everyF (everyF x 0 a) 0 b = everyF x 0 (a * b) := by
  apply List.ext_getElem?
  intro i
  rw [everyF_get hb, everyF_get ha, everyF_get (Nat.mul_pos ha hb)]
  congr 1
  simp only [Nat.zero_add]
  rw [Nat.mul_assoc, Nat.mul_comm b a]
theorem ex_one {x : List Int} {l m k : Nat} (hl : 1 ≤ l) (hm : 1 ≤ m) (hg : Nat.gcd l m = 1) (hn : x.length = m * k) : exB0 x l m = true := by
  unfold exB0
  rw [beq_iff_eq]
  apply List.ext_getElem?
  intro i
  rw [everyF_get hm, upF_get, upF_get, show (everyF x 0 m).length = cnt x.length 0 m from everyN_length _ _ _ _, hn, cnt_mul hm, Nat.zero_add]
  have e : i * m < l * (m * k) ↔ i < l * k := by
    rw [show l * (m * k) = l * k * m by rw [Nat.mul_comm m k, Nat.mul_assoc]]
    exact Nat.mul_lt_mul_right (by omega)
  by_cases h : i < l * k
  · rw [if_pos h, if_pos (e.2 h)]
    congr 1
    by_cases h2 : i % l = 0
    · obtain ⟨j, rfl⟩ := Nat.dvd_of_mod_eq_zero h2
      rw [if_pos (by rw [Nat.mul_assoc]; exact Nat.mul_mod_right _ _), if_pos h2, everyF_get hm, Nat.zero_add, Nat.mul_assoc, Nat.mul_div_cancel_left _ (by omega), Nat.mul_div_cancel_left _ (by omega)]
    · rw [if_neg h2, if_neg]
      intro hc
      exact h2 (Nat.mod_eq_zero_of_dvd (Nat.Coprime.dvd_of_dvd_mul_right hg (Nat.dvd_of_mod_eq_zero hc)))
  · rw [if_neg h, if_neg (fun hc => h (e.1 hc))]
/-- 1, 2, 3 and so on, of the first k only. -/
def onN (m k : Nat) : List Int := (List.range m).map fun i => if i < k then (i : Int) + 1 else 0
theorem onN_length (m k : Nat) : (onN m k).length = m := by simp [onN]
theorem onN_zero (m : Nat) : onN m 0 = List.replicate m 0 := by
  apply List.ext_getElem?
  intro i
  simp only [onN, List.getElem?_map, List.getElem?_replicate]
  rcases Nat.lt_or_ge i m with h | h
  · rw [List.getElem?_range h]; simp [h]
  · rw [List.getElem?_eq_none (by simpa using h)]; simp; omega
theorem onN_succ {m k : Nat} (h : k < m) : onN m (k + 1) = (onN m k).set k ((k : Int) + 1) := by
  apply List.ext_getElem?
  intro i
  rw [List.getElem?_set]
  simp only [onN, List.getElem?_map, List.length_map, List.length_range]
  by_cases e : k = i
  · subst e; rw [if_pos rfl, if_pos h, List.getElem?_range h]; simp
  · rw [if_neg e]
    rcases Nat.lt_or_ge i m with hi | hi
    · rw [List.getElem?_range hi]
      simp only [Option.map_some]
      by_cases h1 : i < k
      · rw [if_pos (by omega), if_pos h1]
      · rw [if_neg (by omega), if_neg h1]
    · rw [List.getElem?_eq_none (by simpa using hi)]; rfl
theorem ex_all : ∀ l, l < 13 → ∀ m, m < 13 → 1 ≤ l → 1 ≤ m → exB0 (onN m m) l m = (Nat.gcd l m == 1) := by decide +kernel
end Go.Proofs.Ytimhplkkgbpapaa
