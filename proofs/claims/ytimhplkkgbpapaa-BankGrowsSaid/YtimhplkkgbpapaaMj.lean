/- Plain lists: the convolution of two lists. -/
import Derived.Test.YtimhplkkgbpapaaMq
namespace Go.Proofs.Ytimhplkkgbpapaa
open Go.RowKit

/-- Element k of a list, 0 outside. -/
def el (l : List Int) (k : Nat) : Int := l[k]?.getD 0
/-- The sum over the first I elements of h of h[i] * g[n - i]. -/
def cS (h g : List Int) (n : Nat) : Nat → Int
  | 0 => 0
  | i + 1 => cS h g n i + if i ≤ n then el h i * el g (n - i) else 0
def joinLen (h g : List Int) : Nat := if h = [] ∨ g = [] then 0 else h.length + g.length - 1
/-- The state behind I rows and J elements of the next row. -/
def joinN (h g : List Int) (I J : Nat) : List Int := (List.range (joinLen h g)).map fun n => cS h g n I + if I ≤ n ∧ n - I < J then el h I * el g (n - I) else 0
def joinF (h g : List Int) : List Int := joinN h g h.length 0
def joinE (h g : List Int) : Int := if 49 < h.length ∨ 49 < g.length then 4 else if (h.all fun v => inB v (-16777216) 16777216) = true ∧ (g.all fun v => inB v (-16777216) 16777216) = true then 0 else 17
def joinV (h g : List Int) : List Int := if joinE h g = 0 then joinF h g else []
theorem joinN_length (h g : List Int) (I J : Nat) : (joinN h g I J).length = joinLen h g := by simp [joinN]
theorem joinN_zero (h g : List Int) : joinN h g 0 0 = List.replicate (joinLen h g) 0 := by
  apply List.ext_getElem?
  intro i
  simp only [joinN, List.getElem?_map, List.getElem?_replicate]
  rcases Nat.lt_or_ge i (joinLen h g) with h1 | h1
  · rw [List.getElem?_range h1]; simp [h1, cS]
  · rw [List.getElem?_eq_none (by simpa using h1)]; simp; omega
theorem joinN_get {h g : List Int} {I J n : Nat} (hn : n < joinLen h g) : (joinN h g I J)[n]? = some (cS h g n I + if I ≤ n ∧ n - I < J then el h I * el g (n - I) else 0) := by
  simp only [joinN, List.getElem?_map, List.getElem?_range hn]; rfl
/-- A whole row. -/
theorem joinN_row {h g : List Int} (I : Nat) : joinN h g I g.length = joinN h g (I + 1) 0 := by
  apply List.ext_getElem?
  intro n
  rcases Nat.lt_or_ge n (joinLen h g) with h1 | h1
  · rw [joinN_get h1, joinN_get h1]
    congr 1
    rw [if_neg (by omega : ¬ (I + 1 ≤ n ∧ n - (I + 1) < 0))]
    show _ = cS h g n I + _ + 0
    by_cases h2 : I ≤ n
    · rw [if_pos h2]
      by_cases h3 : n - I < g.length
      · rw [if_pos ⟨h2, h3⟩]; omega
      · have : el g (n - I) = 0 := by unfold el; rw [List.getElem?_eq_none (by omega)]; rfl
        rw [if_neg (by omega), this]; simp
    · rw [if_neg h2, if_neg (by omega)]; simp
  · rw [List.getElem?_eq_none (by rw [joinN_length]; exact h1), List.getElem?_eq_none (by rw [joinN_length]; exact h1)]
/-- One element more. -/
theorem joinN_succ {h g : List Int} {I J : Nat} {a b s : Int} (ha : h[I]? = some a) (hb : g[J]? = some b) (hs : (joinN h g I J)[I + J]? = some s) : joinN h g I (J + 1) = (joinN h g I J).set (I + J) (s + a * b) := by
  have hl : I + J < joinLen h g := by
    have := (List.getElem?_eq_some_iff.1 hs).1
    rwa [joinN_length] at this
  rw [joinN_get hl] at hs
  have e1 : el h I = a := by unfold el; rw [ha]; rfl
  have e2 : el g J = b := by unfold el; rw [hb]; rfl
  apply List.ext_getElem?
  intro n
  rw [List.getElem?_set, joinN_length]
  rcases Nat.lt_or_ge n (joinLen h g) with h1 | h1
  · rw [joinN_get h1, joinN_get h1]
    by_cases e : I + J = n
    · subst e
      rw [if_pos rfl, if_pos h1, if_pos ⟨by omega, by omega⟩]
      injection hs with hs
      rw [if_neg (by omega)] at hs
      rw [Nat.add_sub_cancel_left, e1, e2]
      congr 1
      omega
    · rw [if_neg e]
      congr 2
      by_cases h2 : I ≤ n ∧ n - I < J
      · rw [if_pos h2, if_pos (by omega)]
      · rw [if_neg h2, if_neg (by omega)]
  · rw [List.getElem?_eq_none (by rw [joinN_length]; exact h1), if_neg (by omega), List.getElem?_eq_none (by rw [joinN_length]; exact h1)]
theorem el_bound {l : List Int} {B : Int} (hB : 0 ≤ B) (h : ∀ x ∈ l, -B ≤ x ∧ x ≤ B) (k : Nat) : -B ≤ el l k ∧ el l k ≤ B := by
  unfold el
  cases hk : l[k]? with
  | none => simp; omega
  | some x => exact h x (List.mem_of_getElem? hk)
theorem cS_bound {h g : List Int} (h1 : ∀ x ∈ h, -16777216 ≤ x ∧ x ≤ 16777216) (h2 : ∀ x ∈ g, -16777216 ≤ x ∧ x ≤ 16777216) (n : Nat) : ∀ I : Nat, -(281474976710656 * (I : Int)) ≤ cS h g n I ∧ cS h g n I ≤ 281474976710656 * (I : Int) := by
  intro I
  induction I with
  | zero => simp [cS]
  | succ I ih =>
    have hb := mul_bound (x := el h I) (y := el g (n - I)) (B := 16777216) (C := 16777216) (el_bound (by decide) h1 I) (el_bound (by decide) h2 _)
    unfold cS
    generalize el h I * el g (n - I) = P at *
    split <;> omega
/-- What the state holds, and what one product adds, stays far from overflow. -/
theorem joinN_bound {h g : List Int} (h1 : ∀ x ∈ h, -16777216 ≤ x ∧ x ≤ 16777216) (h2 : ∀ x ∈ g, -16777216 ≤ x ∧ x ≤ 16777216) {I J n : Nat} {s : Int} (hI : I ≤ 1000) (hs : (joinN h g I J)[n]? = some s) : -300000000000000000 ≤ s ∧ s ≤ 300000000000000000 := by
  have hl : n < joinLen h g := by
    have := (List.getElem?_eq_some_iff.1 hs).1
    rwa [joinN_length] at this
  rw [joinN_get hl] at hs
  injection hs with hs
  have hc := cS_bound h1 h2 n I
  have hb := mul_bound (x := el h I) (y := el g (n - I)) (B := 16777216) (C := 16777216) (el_bound (by decide) h1 I) (el_bound (by decide) h2 _)
  generalize el h I * el g (n - I) = P at *
  rw [← hs]
  split <;> omega
end Go.Proofs.Ytimhplkkgbpapaa
