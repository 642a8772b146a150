/- Plain law: filtering by phases is filtering. -/
import Derived.Test.YtimhplkkgbpapaaMj
import Derived.Test.YtimhplkkgbpapaaMs
import Derived.Test.YtimhplkkgbpapaaMn
namespace Go.Proofs.Ytimhplkkgbpapaa
open Go.RowKit

/-- A sum. -/
def sm (f : Nat → Int) : Nat → Int
  | 0 => 0
  | n + 1 => sm f n + f n
theorem sm_congr {f g : Nat → Int} {n : Nat} (h : ∀ i, i < n → f i = g i) : sm f n = sm g n := by
  induction n with
  | zero => rfl
  | succ n ih => unfold sm; rw [ih (fun i hi => h i (by omega)), h n (by omega)]
theorem sm_more {f : Nat → Int} {n k : Nat} (h : ∀ i, n ≤ i → f i = 0) : sm f (n + k) = sm f n := by
  induction k with
  | zero => rfl
  | succ k ih => show sm f (n + k) + f (n + k) = _; rw [ih, h _ (by omega)]; omega
theorem sm_to {f : Nat → Int} {n N : Nat} (hN : n ≤ N) (h : ∀ i, n ≤ i → f i = 0) : sm f N = sm f n := by
  obtain ⟨k, rfl⟩ := Nat.exists_eq_add_of_le hN
  exact sm_more h
theorem sm_zero {f : Nat → Int} {n : Nat} (h : ∀ i, i < n → f i = 0) : sm f n = 0 := by
  induction n with
  | zero => rfl
  | succ n ih => unfold sm; rw [ih (fun i hi => h i (by omega)), h n (by omega)]; rfl
theorem sm_add {f g : Nat → Int} {n : Nat} : sm (fun i => f i + g i) n = sm f n + sm g n := by
  induction n with
  | zero => rfl
  | succ n ih => simp only [sm]; rw [ih]; omega
theorem sm_split {f : Nat → Int} {n k : Nat} : sm f (n + k) = sm f n + sm (fun i => f (n + i)) k := by
  induction k with
  | zero => simp [sm]
  | succ k ih => show sm f (n + k) + f (n + k) = _; rw [ih]; simp only [sm]; omega
theorem cS_sm (h g : List Int) (n I : Nat) : cS h g n I = sm (fun i => if i ≤ n then el h i * el g (n - i) else 0) I := by
  induction I with
  | zero => rfl
  | succ I ih => simp only [cS, sm]; rw [ih]
/-- Sums over i < m and over the multiples t of m, all of which lie below Q * m: each index i + t once. -/
theorem sm_phases (T : Nat → Int) {m : Nat} (hm : 1 ≤ m) (Q : Nat) : sm (fun i => sm (fun t => if t % m = 0 then T (i + t) else 0) (Q * m)) m = sm T (Q * m) := by
  induction Q with
  | zero => simp only [Nat.zero_mul]; exact sm_zero (fun i _ => rfl)
  | succ Q ih =>
    have e : (Q + 1) * m = Q * m + m := by rw [Nat.add_mul]; omega
    rw [e, sm_split (f := T), ← ih, ← sm_add]
    apply sm_congr
    intro i _
    rw [sm_split]
    congr 1
    obtain ⟨j, rfl⟩ : ∃ j, m = j + 1 := ⟨m - 1, by omega⟩
    rw [Nat.add_comm j 1, sm_split]
    have h1 : sm (fun t => if (Q * (1 + j) + t) % (1 + j) = 0 then T (i + (Q * (1 + j) + t)) else 0) 1 = T (Q * (1 + j) + i) := by
      simp only [sm]
      rw [if_pos (by rw [Nat.add_zero]; exact Nat.mul_mod_left _ _)]
      rw [Nat.add_zero, Nat.add_comm i]; omega
    rw [h1, sm_zero, Int.add_zero]
    intro t ht
    rw [if_neg]
    rw [Nat.add_comm, Nat.add_mul_mod_self_right, Nat.mod_eq_of_lt (by omega)]
    omega
theorem joinF_el (h g : List Int) (n : Nat) : el (joinF h g) n = cS h g n h.length := by
  unfold joinF
  by_cases hn : n < joinLen h g
  · unfold el
    rw [joinN_get hn, if_neg (by omega)]; simp
  · have : el (joinN h g h.length 0) n = 0 := by unfold el; rw [List.getElem?_eq_none (by rw [joinN_length]; omega)]; rfl
    rw [this, cS_sm]
    symm
    apply sm_zero
    intro i hi
    by_cases h1 : i ≤ n
    · rw [if_pos h1]
      have hg : el g (n - i) = 0 := by
        unfold joinLen at hn
        unfold el
        split at hn
        · rename_i hc
          rcases hc with hc | hc
          · rw [hc] at hi; simp at hi
          · rw [hc]; rfl
        · rw [List.getElem?_eq_none (by omega)]; rfl
      rw [hg, Int.mul_zero]
    · rw [if_neg h1]
theorem wide_el {a : List Int} {m i : Nat} (hm : 1 ≤ m) (t : Nat) : el (expF (everyF a i m) m) t = if t % m = 0 then el a (i + t) else 0 := by
  have hl : (everyF a i m).length = cnt a.length i m := everyN_length _ _ _ _
  unfold el expF exN
  rw [List.getElem?_map]
  by_cases ht : t % m = 0
  · obtain ⟨k, rfl⟩ := Nat.dvd_of_mod_eq_zero ht
    rw [if_pos ht]
    by_cases hk : k < cnt a.length i m
    · have := exLen_lt (m := m) (k := k) (n := (everyF a i m).length) (by rw [hl]; exact hk)
      rw [Nat.mul_comm k m] at this
      rw [List.getElem?_range this]
      simp only [Option.map_some, Option.getD_some]
      rw [if_pos ht, Nat.mul_div_cancel_left _ (by omega), everyF_get hm, Nat.mul_comm m k]
    · have h2 : ¬ m * k < exLen m (everyF a i m).length := by
        rw [hl]
        unfold exLen
        split
        · omega
        · have : cnt a.length i m * m ≤ k * m := Nat.mul_le_mul_right _ (by omega)
          have e : (cnt a.length i m - 1) * m + m = cnt a.length i m * m := by
            obtain ⟨q, hq⟩ : ∃ q, cnt a.length i m = q + 1 := ⟨cnt a.length i m - 1, by omega⟩
            rw [hq, Nat.add_sub_cancel, Nat.add_mul]; omega
          rw [Nat.mul_comm m k]
          omega
      have h3 : ¬ i + k * m < a.length := fun hc => hk ((cnt_iff hm).1 hc)
      rw [List.getElem?_eq_none (by simpa using h2), List.getElem?_eq_none (by rw [Nat.mul_comm m k]; omega)]; rfl
  · rw [if_neg ht]
    rcases Nat.lt_or_ge t (exLen m (everyF a i m).length) with h | h
    · rw [List.getElem?_range h]; simp [ht]
    · rw [List.getElem?_eq_none (by simpa using h)]; rfl
/-- The law. -/
theorem phases_law {a b : List Int} {m : Nat} (hm : 1 ≤ m) (n : Nat) : sm (fun i => if i ≤ n then el (joinF (expF (everyF a i m) m) b) (n - i) else 0) m = el (joinF a b) n := by
  rw [joinF_el, cS_sm]
  have hT : ∀ s, a.length ≤ s → (fun s => if s ≤ n then el a s * el b (n - s) else 0) s = 0 := by
    intro s hs
    show (if s ≤ n then _ else _) = _
    have : el a s = 0 := by unfold el; rw [List.getElem?_eq_none hs]; rfl
    rw [this]; simp
  have hQ : a.length ≤ a.length * m := Nat.le_mul_of_pos_right _ (by omega)
  rw [← sm_to hQ hT, ← sm_phases _ hm a.length]
  apply sm_congr
  intro i hi
  by_cases h1 : i ≤ n
  · rw [if_pos h1, joinF_el, cS_sm]
    have hw : (expF (everyF a i m) m).length ≤ a.length * m + m := by
      show (exN _ _ _).length ≤ _
      rw [exN_length, show (everyF a i m).length = cnt a.length i m from everyN_length _ _ _ _]
      have := cnt_le a.length i m hm
      unfold exLen
      split
      · omega
      · have : (cnt a.length i m - 1) * m ≤ a.length * m := Nat.mul_le_mul_right _ (by omega)
        omega
    have hz : ∀ t, (expF (everyF a i m) m).length ≤ t → (fun t => if t ≤ n - i then el (expF (everyF a i m) m) t * el b (n - i - t) else 0) t = 0 := by
      intro t ht
      show (if t ≤ n - i then _ else _) = _
      have : el (expF (everyF a i m) m) t = 0 := by unfold el; rw [List.getElem?_eq_none ht]; rfl
      rw [this]; simp
    rw [← sm_to hw hz, ← sm_to (n := a.length * m) (N := a.length * m + m) (f := fun t => if t % m = 0 then (fun s => if s ≤ n then el a s * el b (n - s) else 0) (i + t) else 0) (by omega) (fun t ht => by
      by_cases hc : t % m = 0
      · rw [if_pos hc]; exact hT _ (by omega)
      · rw [if_neg hc])]
    apply sm_congr
    intro t _
    rw [wide_el hm]
    by_cases hc : t % m = 0
    · rw [if_pos hc, if_pos hc]
      show _ = if i + t ≤ n then _ else _
      by_cases h2 : t ≤ n - i
      · rw [if_pos h2, if_pos (by omega), Nat.sub_sub]
      · rw [if_neg h2, if_neg (by omega)]
    · rw [if_neg hc, if_neg hc]; simp
  · rw [if_neg h1]
    symm
    apply sm_zero
    intro t _
    by_cases hc : t % m = 0
    · rw [if_pos hc]
      show (if i + t ≤ n then _ else _) = _
      rw [if_neg (by omega)]
    · rw [if_neg hc]
end Go.Proofs.Ytimhplkkgbpapaa
