/- Plain law: the merge of the phases is the list. -/
import Derived.Test.YthalkhpdcijlkaaMu
import Derived.Test.YthalkhpdcijlkaaMn
namespace Go.Proofs.Ythalkhpdcijlkaa
open Go.RowKit

theorem phF_length (x : List Int) (m : Nat) : (phF x m).length = m := phN_length x m m
theorem phF_at {x : List Int} {m j : Nat} (h : j < m) : (phF x m)[j]? = some (everyF x j m) := by
  unfold phF phN
  rw [List.getElem?_map, List.getElem?_range h]
  simp [h]
theorem total_phases (x : List Int) {m : Nat} (hm : 1 ≤ m) : total (phF x m) = x.length := by
  have key : ∀ k, k ≤ m → total ((phF x m).take k) = sumC m x.length k := by
    intro k
    induction k with
    | zero => intro _; simp [total, sumC]
    | succ k ih =>
      intro hk
      rw [sum_take_succ (phF_at (x := x) (show k < m by omega)), ih (by omega)]
      show _ + (everyF x k m).length = sumC m x.length k + cnt x.length k m
      rw [show (everyF x k m).length = cnt x.length k m from everyN_length _ _ _ _]
  have := key m (Nat.le_refl _)
  rw [sumC_all hm, List.take_of_length_le (by rw [phF_length]; exact Nat.le_refl _)] at this
  exact this
theorem merge_ok {x : List Int} {m : Nat} (h1 : 1 ≤ m) (h2 : m ≤ 12) (hx : x.length ≤ 4096) : mergeE (phF x m) = 0 := by
  unfold mergeE
  rw [phF_length, if_pos (inB_iff.2 ⟨by omega, by omega⟩), total_phases x h1, if_neg (by omega), if_pos]
  intro j hj
  rw [phF_at hj]
  exact everyN_length _ _ _ _
theorem merge_back {x : List Int} {m : Nat} (h1 : 1 ≤ m) (h2 : m ≤ 12) (hx : x.length ≤ 4096) : mergeV (phF x m) = x := by
  unfold mergeV
  rw [if_pos (merge_ok h1 h2 hx), ← mgN_all, total_phases x h1]
  apply List.ext_getElem?
  intro i
  unfold mgN
  rw [List.getElem?_map, phF_length]
  rcases Nat.lt_or_ge i x.length with h | h
  · have hd := Nat.mod_add_div i m
    rw [List.getElem?_range h]
    simp only [Option.map_some]
    rw [phF_at (Nat.mod_lt i (by omega)), Option.getD_some, everyF_get h1, show i % m + i / m * m = i by rw [Nat.mul_comm (i / m)]; exact hd, List.getElem?_eq_getElem h]
    rfl
  · rw [List.getElem?_eq_none (by simpa using h), List.getElem?_eq_none h]; rfl
end Go.Proofs.Ythalkhpdcijlkaa
