/- The walks of row, join, delay of package direct. -/
import Derived.Test.YtgabfdappeakiaaU
set_option linter.unusedVariables false
set_option linter.unusedSimpArgs false
namespace Go.Proofs.Ytgabfdappeakiaa
open Go.RowKit

/-- The terms of a row: coefficients times sign, for the values from one on. -/
def rowF (l : List Int) (sign fr : Int) (k : Nat) : List (Int × Int) := (List.range l.length).map fun i => if i < k then (wrap64 (fr + i), wrap64 (sign * (l[i]?).getD 0)) else (0, 0)
theorem rowF_length (l : List Int) (sign fr : Int) (k : Nat) : (rowF l sign fr k).length = l.length := by simp [rowF]
theorem rowF_get {l : List Int} {sign fr : Int} {k i : Nat} (h : i < l.length) : (rowF l sign fr k)[i]? = some (if i < k then (wrap64 (fr + i), wrap64 (sign * (l[i]?).getD 0)) else (0, 0)) := by
  unfold rowF
  rw [List.getElem?_map, List.getElem?_range h]; rfl
theorem rowF_zero (l : List Int) (sign fr : Int) : rowF l sign fr 0 = List.replicate l.length (0, 0) := by
  apply List.ext_getElem?
  intro i
  rcases Nat.lt_or_ge i l.length with h | h
  · rw [rowF_get h, List.getElem?_replicate, if_pos h]; simp
  · rw [List.getElem?_eq_none (by rw [rowF_length]; exact h), List.getElem?_eq_none (by simpa using h)]
theorem rowF_succ {l : List Int} {sign fr : Int} {k : Nat} {x : Int} (h : l[k]? = some x) : rowF l sign fr (k + 1) = (rowF l sign fr k).set k (wrap64 (fr + k), wrap64 (sign * x)) := by
  have hk := (List.getElem?_eq_some_iff.1 h).1
  apply List.ext_getElem?
  intro i
  rw [List.getElem?_set, rowF_length]
  rcases Nat.lt_or_ge i l.length with h1 | h1
  · rw [rowF_get h1]
    by_cases e : k = i
    · subst e
      rw [if_pos rfl, if_pos hk, if_pos (by omega), h]; rfl
    · rw [if_neg e, rowF_get h1]
      by_cases h2 : i < k
      · rw [if_pos h2, if_pos (by omega)]
      · rw [if_neg h2, if_neg (by omega)]
  · rw [List.getElem?_eq_none (by rw [rowF_length]; exact h1), if_neg (by omega), List.getElem?_eq_none (by rw [rowF_length]; exact h1)]
theorem i64_w (x : Int) : I64 (wrap64 x) := by unfold I64 wrap64; omega
theorem flat_take {α : Type} {ns : List (List α)} {k : Nat} {ts : List α} (h : ns[k]? = some ts) : (ns.take (k + 1)).flatten = (ns.take k).flatten ++ ts := by
  rw [take_snoc' h, List.flatten_append]; simp
theorem flat_le {α : Type} {B : Nat} : ∀ {ns : List (List α)}, (∀ ts ∈ ns, ts.length ≤ B) → ns.flatten.length ≤ ns.length * B
  | [], _ => by simp
  | a :: l, h => by
    have h1 := flat_le (ns := l) fun ts ht => h ts (List.mem_cons_of_mem _ ht)
    have h2 := h a List.mem_cons_self
    rw [List.flatten_cons, List.length_append, List.length_cons, Nat.add_mul]
    omega
/-- A delay line laid into a list from o on. -/
def dlF (L : List Int) (o : Nat) (first source : Int) (k : Nat) : List Int := (List.range L.length).map fun i => if o ≤ i ∧ i < o + k then (if i = o then source else wrap64 (wrap64 (first + ((i - o : Nat) : Int)) - 1)) else (L[i]?).getD 0
theorem dlF_length (L : List Int) (o : Nat) (f s : Int) (k : Nat) : (dlF L o f s k).length = L.length := by simp [dlF]
theorem dlF_get {L : List Int} {o : Nat} {f s : Int} {k i : Nat} (h : i < L.length) : (dlF L o f s k)[i]? = some (if o ≤ i ∧ i < o + k then (if i = o then s else wrap64 (wrap64 (f + ((i - o : Nat) : Int)) - 1)) else (L[i]?).getD 0) := by
  unfold dlF
  rw [List.getElem?_map, List.getElem?_range h]; rfl
theorem dlF_zero (L : List Int) (o : Nat) (f s : Int) : dlF L o f s 0 = L := by
  apply List.ext_getElem?
  intro i
  rcases Nat.lt_or_ge i L.length with h | h
  · rw [dlF_get h, if_neg (by omega), List.getElem?_eq_getElem h]; rfl
  · rw [List.getElem?_eq_none (by rw [dlF_length]; exact h), List.getElem?_eq_none h]
theorem dlF_succ {L : List Int} {o : Nat} {f s : Int} {k : Nat} (h : o + k < L.length) : dlF L o f s (k + 1) = (dlF L o f s k).set (o + k) (if k = 0 then s else wrap64 (wrap64 (f + (k : Int)) - 1)) := by
  apply List.ext_getElem?
  intro i
  rw [List.getElem?_set, dlF_length]
  rcases Nat.lt_or_ge i L.length with h1 | h1
  · rw [dlF_get h1]
    by_cases e : o + k = i
    · subst e
      rw [if_pos rfl, if_pos h, if_pos (by omega), show o + k - o = k by omega]
      by_cases hk : k = 0
      · rw [if_pos (by omega), if_pos hk]
      · rw [if_neg (by omega), if_neg hk]
    · rw [if_neg e, dlF_get h1]
      by_cases h2 : o ≤ i ∧ i < o + k
      · rw [if_pos h2, if_pos (by omega)]
      · rw [if_neg h2, if_neg (by omega)]
  · rw [List.getElem?_eq_none (by rw [dlF_length]; exact h1), if_neg (by omega), List.getElem?_eq_none (by rw [dlF_length]; exact h1)]
theorem add_cellsO (g o k : Nat) : (⟨g, o, none⟩ : Addr).add k = ⟨g, o + k, none⟩ := by
  unfold Addr.add
  by_cases h0 : k = 0 <;> simp [h0]
theorem fits_24 {b f r o v : Int} (h : fitsW b f r o v = true) : -9223372036854775807 ≤ v ∧ v ≤ 9223372036854775807 := by
  unfold fitsW at h
  rw [Bool.and_eq_true, inB_iff] at h
  have := low_high b f r o
  omega
end Go.Proofs.Ytgabfdappeakiaa
