/- The law Phases of chapter 32. -/
import Derived.Test.YthalkhpdcijlkaaMo
namespace Go.Proofs.Ythalkhpdcijlkaa
open Go.RowKit

/-- The sum behind I phases and t elements of the next. -/
def psN (a b : List Int) (m I t : Nat) : List Int := (List.range (joinLen a b)).map fun n =>
  sm (fun i => if i ≤ n then el (joinF (expF (everyF a i m) m) b) (n - i) else 0) I + if I ≤ n ∧ n - I < t then el (joinF (expF (everyF a I m) m) b) (n - I) else 0
theorem psN_length (a b : List Int) (m I t : Nat) : (psN a b m I t).length = joinLen a b := by simp [psN]
theorem psN_get {a b : List Int} {m I t n : Nat} (hn : n < joinLen a b) : (psN a b m I t)[n]? = some (sm (fun i => if i ≤ n then el (joinF (expF (everyF a i m) m) b) (n - i) else 0) I + if I ≤ n ∧ n - I < t then el (joinF (expF (everyF a I m) m) b) (n - I) else 0) := by
  simp only [psN, List.getElem?_map, List.getElem?_range hn]; rfl
theorem psN_zero (a b : List Int) (m : Nat) : psN a b m 0 0 = List.replicate (joinLen a b) 0 := by
  apply List.ext_getElem?
  intro i
  rcases Nat.lt_or_ge i (joinLen a b) with h1 | h1
  · rw [psN_get h1, List.getElem?_replicate, if_pos h1, if_neg (by omega)]; rfl
  · rw [List.getElem?_eq_none (by rw [psN_length]; exact h1), List.getElem?_eq_none (by simpa using h1)]
theorem psN_row {a b : List Int} {m : Nat} (I : Nat) : psN a b m I (joinF (expF (everyF a I m) m) b).length = psN a b m (I + 1) 0 := by
  apply List.ext_getElem?
  intro n
  rcases Nat.lt_or_ge n (joinLen a b) with h1 | h1
  · rw [psN_get h1, psN_get h1, if_neg (by omega : ¬ (I + 1 ≤ n ∧ n - (I + 1) < 0))]
    simp only [sm]
    congr 1
    rw [Int.add_zero]
    congr 1
    by_cases h2 : I ≤ n
    · rw [if_pos h2]
      by_cases h3 : n - I < (joinF (expF (everyF a I m) m) b).length
      · rw [if_pos ⟨h2, h3⟩]
      · have : el (joinF (expF (everyF a I m) m) b) (n - I) = 0 := by
          show ((joinF (expF (everyF a I m) m) b)[n - I]?).getD 0 = 0
          rw [List.getElem?_eq_none (by omega)]; rfl
        rw [if_neg (by omega), this]
    · rw [if_neg h2, if_neg (by omega)]
  · rw [List.getElem?_eq_none (by rw [psN_length]; exact h1), List.getElem?_eq_none (by rw [psN_length]; exact h1)]
theorem psN_succ {a b : List Int} {m I t : Nat} {s y : Int} (hy : (joinF (expF (everyF a I m) m) b)[t]? = some y) (hs : (psN a b m I t)[I + t]? = some s) : psN a b m I (t + 1) = (psN a b m I t).set (I + t) (s + y) := by
  have hl : I + t < joinLen a b := by
    have := (List.getElem?_eq_some_iff.1 hs).1
    rwa [psN_length] at this
  rw [psN_get hl] at hs
  have e1 : el (joinF (expF (everyF a I m) m) b) t = y := by unfold el; rw [hy]; rfl
  apply List.ext_getElem?
  intro n
  rw [List.getElem?_set, psN_length]
  rcases Nat.lt_or_ge n (joinLen a b) with h1 | h1
  · rw [psN_get h1, psN_get h1]
    by_cases e : I + t = n
    · subst e
      rw [if_pos rfl, if_pos h1, if_pos ⟨by omega, by omega⟩]
      injection hs with hs
      rw [if_neg (by omega)] at hs
      rw [Nat.add_sub_cancel_left, e1]
      congr 1
      omega
    · rw [if_neg e]
      congr 2
      by_cases h2 : I ≤ n ∧ n - I < t
      · rw [if_pos h2, if_pos (by omega)]
      · rw [if_neg h2, if_neg (by omega)]
  · rw [List.getElem?_eq_none (by rw [psN_length]; exact h1), if_neg (by omega), List.getElem?_eq_none (by rw [psN_length]; exact h1)]
theorem psN_all {a b : List Int} {m : Nat} (hm : 1 ≤ m) : psN a b m m 0 = joinF a b := by
  apply List.ext_getElem?
  intro n
  rcases Nat.lt_or_ge n (joinLen a b) with h1 | h1
  · rw [psN_get h1, if_neg (by omega), Int.add_zero, phases_law hm]
    have h2 : n < (joinF a b).length := by rw [joinF_length]; exact h1
    rw [List.getElem?_eq_getElem h2]
    unfold el
    rw [List.getElem?_eq_getElem h2]; rfl
  · rw [List.getElem?_eq_none (by rw [psN_length]; exact h1), List.getElem?_eq_none (by rw [joinF_length]; exact h1)]
theorem part_len {a b : List Int} {m I : Nat} (hm : 1 ≤ m) (h : 0 < (joinF (expF (everyF a I m) m) b).length) : I + (joinF (expF (everyF a I m) m) b).length ≤ joinLen a b := by
  rw [joinF_length] at h ⊢
  have hl : (expF (everyF a I m) m).length = exLen m (cnt a.length I m) := by
    show (exN _ _ _).length = _
    rw [exN_length, show (everyF a I m).length = cnt a.length I m from everyN_length _ _ _ _]
  unfold joinLen at h
  split at h
  · omega
  · rename_i hne
    have hb : b ≠ [] := fun hc => hne (.inr hc)
    have hw : expF (everyF a I m) m ≠ [] := fun hc => hne (.inl hc)
    have hpos : 0 < (expF (everyF a I m) m).length := List.length_pos_iff.2 hw
    have hK : 1 ≤ cnt a.length I m := by
      rcases Nat.eq_zero_or_pos (cnt a.length I m) with h0 | h0
      · rw [hl, h0] at hpos; simp [exLen] at hpos
      · exact h0
    have hI := (cnt_iff (n := a.length) (fr := I) (k := cnt a.length I m - 1) hm).2 (by omega)
    have hel : exLen m (cnt a.length I m) = (cnt a.length I m - 1) * m + 1 := by unfold exLen; rw [if_neg (by omega)]
    have ha : a ≠ [] := fun hc => by rw [hc] at hI; simp at hI
    unfold joinLen
    rw [if_neg hne, if_neg (by rintro (hc | hc); exact ha hc; exact hb hc), hl, hel]
    have := List.length_pos_iff.2 hb
    omega
theorem wide_len {a : List Int} {m I : Nat} (hm : 1 ≤ m) : (expF (everyF a I m) m).length ≤ a.length := by
  have hl : (expF (everyF a I m) m).length = exLen m (cnt a.length I m) := by
    show (exN _ _ _).length = _
    rw [exN_length, show (everyF a I m).length = cnt a.length I m from everyN_length _ _ _ _]
  rw [hl]
  unfold exLen
  split
  · omega
  · have hI := (cnt_iff (n := a.length) (fr := I) (k := cnt a.length I m - 1) hm).2 (by omega)
    omega
theorem wide_in {a : List Int} {m I : Nat} (hm : 1 ≤ m) {B : Int} (hB : 0 ≤ B) (h : ∀ x ∈ a, -B ≤ x ∧ x ≤ B) : ∀ x ∈ expF (everyF a I m) m, -B ≤ x ∧ x ≤ B := by
  intro x hx
  obtain ⟨t, ht⟩ := List.getElem?_of_mem hx
  have e : el (expF (everyF a I m) m) t = x := by unfold el; rw [ht]; rfl
  rw [wide_el hm] at e
  rw [← e]
  split
  · exact el_bound hB h _
  · omega
theorem joinF_bound {h g : List Int} (h1 : ∀ x ∈ h, -16777216 ≤ x ∧ x ≤ 16777216) (h2 : ∀ x ∈ g, -16777216 ≤ x ∧ x ≤ 16777216) (hl : h.length ≤ 1000) : ∀ x ∈ joinF h g, -300000000000000000 ≤ x ∧ x ≤ 300000000000000000 := by
  intro x hx
  obtain ⟨t, ht⟩ := List.getElem?_of_mem hx
  exact joinN_bound h1 h2 hl ht
theorem sm_bound {f : Nat → Int} {B : Int} (n : Nat) (h : ∀ i, -B ≤ f i ∧ f i ≤ B) : -(n * B) ≤ sm f n ∧ sm f n ≤ n * B := by
  induction n with
  | zero => simp [sm]
  | succ n ih =>
    have := h n
    simp only [sm]
    rw [show ((n + 1 : Nat) : Int) * B = n * B + B by rw [Int.natCast_add, Int.add_mul]; simp]
    generalize (n : Int) * B = Q at *
    omega
theorem psN_bound {a b : List Int} {m I t n : Nat} {s : Int} (hm : 1 ≤ m) (ha : ∀ x ∈ a, -16777216 ≤ x ∧ x ≤ 16777216) (hb : ∀ x ∈ b, -16777216 ≤ x ∧ x ≤ 16777216) (hl : a.length ≤ 1000) (hI : I ≤ 12) (hs : (psN a b m I t)[n]? = some s) : -4000000000000000000 ≤ s ∧ s ≤ 4000000000000000000 := by
  have hlt : n < joinLen a b := by
    have := (List.getElem?_eq_some_iff.1 hs).1
    rwa [psN_length] at this
  rw [psN_get hlt] at hs
  injection hs with hs
  have hpart : ∀ i k, -300000000000000000 ≤ el (joinF (expF (everyF a i m) m) b) k ∧ el (joinF (expF (everyF a i m) m) b) k ≤ 300000000000000000 := fun i k =>
    el_bound (by decide) (joinF_bound (wide_in hm (by decide) ha) hb (Nat.le_trans (wide_len hm) hl)) k
  have h1 := sm_bound (f := fun i => if i ≤ n then el (joinF (expF (everyF a i m) m) b) (n - i) else 0) (B := 300000000000000000) I (fun i => by
    show _ ≤ (if _ then _ else _) ∧ (if _ then _ else _) ≤ _
    split
    · exact hpart i _
    · omega)
  have h2 := hpart I (n - I)
  rw [← hs]
  split <;> omega
end Go.Proofs.Ythalkhpdcijlkaa
