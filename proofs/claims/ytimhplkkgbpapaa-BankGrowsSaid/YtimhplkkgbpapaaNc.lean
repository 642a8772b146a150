/- Plain laws: filters with words, behind and in front of changes of the rate. -/
import Derived.Test.YtimhplkkgbpapaaMjp
namespace Go.Proofs.Ytimhplkkgbpapaa
open Go.RowKit

/-! ### Words -/
theorem wrap_in {b v : Int} (h1 : 1 ≤ b) (h2 : b ≤ 62) : -2 ^ (b - 1).toNat ≤ wrapF b v ∧ wrapF b v ≤ 2 ^ (b - 1).toNat - 1 := by
  unfold wrapF
  rw [if_pos (inB_iff.2 ⟨h1, h2⟩)]
  have e : b.toNat = (b - 1).toNat + 1 := by omega
  have hp := pow_pos' (b - 1).toNat
  have e2 : (2 : Nat) ^ b.toNat = 2 * 2 ^ (b - 1).toNat := by rw [e, Nat.pow_succ, Nat.mul_comm]
  have c : ((2 ^ (b - 1).toNat : Nat) : Int) = (2 : Int) ^ (b - 1).toNat := by push_cast; rfl
  have h3 := @Int.le_bmod v (2 ^ b.toNat) (by rw [e2]; have := Nat.two_pow_pos (b - 1).toNat; omega)
  have h4 := @Int.bmod_le v (2 ^ b.toNat) (by rw [e2]; have := Nat.two_pow_pos (b - 1).toNat; omega)
  rw [e2] at h3 h4
  rw [e2]
  rw [← c] at hp ⊢
  generalize (2 ^ (b - 1).toNat : Nat) = P at *
  generalize v.bmod (2 * P) = q at *
  omega
theorem reduce_in (b f r o v : Int) : lowW b f r o ≤ reduceW b f r o v ∧ reduceW b f r o v ≤ highW b f r o := by
  unfold reduceW
  by_cases h : okW b f r o = true
  · rw [if_pos h]
    have hlh := low_high b f r o
    obtain ⟨h1, h2, _⟩ := okW_iff.1 h
    by_cases ho : o = 2
    · rw [if_pos ho]
      have := wrap_in (b := b) (v := v) (by omega) (by omega)
      unfold lowW highW
      rw [if_pos h, if_pos h]
      exact this
    · rw [if_neg ho]
      unfold satW
      omega
  · rw [if_neg h]
    unfold lowW highW
    rw [if_neg h, if_neg h]; omega
theorem reduce_i64 (b f r o v : Int) : I64 (reduceW b f r o v) := by
  have := reduce_in b f r o v
  have := low_high b f r o
  exact ⟨by omega, by omega⟩
theorem shift_0 (n r : Int) : shiftF 0 n r = 0 := by
  unfold shiftF
  split
  · split
    · simp
    · split <;> simp
  · rfl
theorem reduce_0 (b f r o : Int) : reduceW b f r o 0 = 0 := by
  unfold reduceW
  by_cases h : okW b f r o = true
  · rw [if_pos h]
    have hlh := low_high b f r o
    split
    · unfold wrapF; split <;> simp
    · unfold satW; omega
  · rw [if_neg h]
theorem fits_iff {b f r o v : Int} : fitsW b f r o v = true ↔ okW b f r o = true ∧ lowW b f r o ≤ v ∧ v ≤ highW b f r o := by
  unfold fitsW; rw [Bool.and_eq_true, inB_iff]
theorem fits_small {b f r o v : Int} (h : fitsW b f r o v = true) : -8388608 ≤ v ∧ v ≤ 8388607 := by
  have := (fits_iff.1 h).2
  have := low_high b f r o
  omega
theorem fits_reduce {b f r o : Int} (h : okW b f r o = true) (v : Int) : fitsW b f r o (reduceW b f r o v) = true := fits_iff.2 ⟨h, reduce_in b f r o v⟩
theorem fits_0 {b f r o : Int} (h : okW b f r o = true) : fitsW b f r o 0 = true := by
  have := low_high b f r o
  exact fits_iff.2 ⟨h, by omega, by omega⟩

/-! ### Elements -/
theorem el_of {l : List Int} {k : Nat} {y : Int} (h : l[k]? = some y) : el l k = y := by unfold el; rw [h]; rfl
theorem el_none {l : List Int} {k : Nat} (h : l.length ≤ k) : el l k = 0 := by unfold el; rw [List.getElem?_eq_none h]; rfl
theorem el_up {x : List Int} {m : Nat} (hm : 1 ≤ m) (i : Nat) : el (upF x m) i = if i % m = 0 then el x (i / m) else 0 := by
  unfold el
  rw [upF_get]
  by_cases h : i < m * x.length
  · rw [if_pos h]; rfl
  · rw [if_neg h]
    have : x.length ≤ i / m := (Nat.le_div_iff_mul_le (by omega)).2 (by rw [Nat.mul_comm]; omega)
    rw [List.getElem?_eq_none this]; simp
theorem exLen_le (m n : Nat) (hm : 1 ≤ m) : exLen m n ≤ n * m := by
  unfold exLen
  split
  · omega
  · obtain ⟨q, rfl⟩ : ∃ q, n = q + 1 := ⟨n - 1, by omega⟩
    rw [Nat.add_sub_cancel, Nat.add_mul]; omega
theorem el_exp {h : List Int} {m : Nat} (hm : 1 ≤ m) (t : Nat) : el (expF h m) t = if t % m = 0 then el h (t / m) else 0 := by
  by_cases ht : t < exLen m h.length
  · unfold el expF exN
    rw [List.getElem?_map, List.getElem?_range ht]; rfl
  · rw [el_none (by rw [show (expF h m).length = exLen m h.length from exN_length _ _ _]; omega)]
    by_cases h0 : t % m = 0
    · rw [if_pos h0]
      obtain ⟨k, rfl⟩ := Nat.dvd_of_mod_eq_zero h0
      rw [Nat.mul_div_cancel_left _ (by omega), el_none]
      rcases Nat.lt_or_ge k h.length with hk | hk
      · have := exLen_lt (m := m) hk
        rw [Nat.mul_comm] at this
        exact absurd this ht
      · exact hk
    · rw [if_neg h0]
theorem el_every {x : List Int} {m : Nat} (hm : 1 ≤ m) (i : Nat) : el (everyF x 0 m) i = el x (i * m) := by
  unfold el; rw [everyF_get hm, Nat.zero_add]

/-! ### Sums -/
theorem cS_stop {h g : List Int} {n K J : Nat} (hK : n < K) (hJ : K ≤ J) : cS h g n J = cS h g n K := by
  rw [cS_sm, cS_sm]
  exact sm_to hJ (fun i hi => by rw [if_neg (by omega)])
theorem cS_nil {h g : List Int} {n K J : Nat} (hK : h.length ≤ K) (hJ : K ≤ J) : cS h g n J = cS h g n K := by
  rw [cS_sm, cS_sm]
  exact sm_to hJ (fun i hi => by rw [el_none (by omega)]; simp)
theorem sm_mult (T : Nat → Int) {m : Nat} (hm : 1 ≤ m) (Q : Nat) : sm (fun t => if t % m = 0 then T (t / m) else 0) (Q * m) = sm T Q := by
  induction Q with
  | zero => rw [Nat.zero_mul]; rfl
  | succ Q ih =>
    have e : (Q + 1) * m = Q * m + m := by rw [Nat.add_mul]; omega
    rw [e, sm_split, ih]
    show _ = sm T Q + T Q
    congr 1
    obtain ⟨j, rfl⟩ : ∃ j, m = j + 1 := ⟨m - 1, by omega⟩
    rw [Nat.add_comm j 1, sm_split]
    have h1 : sm (fun t => if (Q * (1 + j) + t) % (1 + j) = 0 then T ((Q * (1 + j) + t) / (1 + j)) else 0) 1 = T Q := by
      simp only [sm]
      rw [Nat.add_zero, if_pos (Nat.mul_mod_left _ _), Nat.mul_div_cancel _ (by omega)]; omega
    rw [h1, sm_zero, Int.add_zero]
    intro t ht
    rw [if_neg]
    rw [Nat.add_comm, Nat.add_mul_mod_self_right, Nat.mod_eq_of_lt (by omega)]
    omega
/-- The expanded filter at a multiple of m. -/
theorem noble_at (h x : List Int) {m : Nat} (hm : 1 ≤ m) (n : Nat) : cS (expF h m) x (n * m) (expF h m).length = cS h (everyF x 0 m) n h.length := by
  have hl : (expF h m).length = exLen m h.length := exN_length _ _ _
  rw [← cS_nil (h := expF h m) (K := (expF h m).length) (J := h.length * m) (Nat.le_refl _) (by rw [hl]; exact exLen_le _ _ hm), cS_sm, cS_sm, ← sm_mult (fun i => if i ≤ n then el h i * el (everyF x 0 m) (n - i) else 0) hm]
  apply sm_congr
  intro t _
  rw [el_exp hm]
  by_cases h0 : t % m = 0
  · rw [if_pos h0]
    obtain ⟨k, rfl⟩ := Nat.dvd_of_mod_eq_zero h0
    rw [Nat.mul_div_cancel_left _ (by omega), if_pos h0, el_every hm]
    by_cases hk : k ≤ n
    · have e : m * k ≤ n * m := by rw [Nat.mul_comm n m]; exact Nat.mul_le_mul_left _ hk
      rw [if_pos hk, if_pos e, Nat.sub_mul, Nat.mul_comm m k]
    · have e : ¬ m * k ≤ n * m := by
        intro hc
        rw [Nat.mul_comm n m] at hc
        exact hk (Nat.le_of_mul_le_mul_left hc (by omega))
      rw [if_neg hk, if_neg e]
  · rw [if_neg h0, if_neg h0]; simp
/-- The expanded filter of a raised list between the multiples of m. -/
theorem noble_between (h x : List Int) {m : Nat} (hm : 1 ≤ m) {i : Nat} (hi : i % m ≠ 0) : cS (expF h m) (upF x m) i (expF h m).length = 0 := by
  rw [cS_sm]
  apply sm_zero
  intro t _
  by_cases ht : t ≤ i
  · rw [if_pos ht, el_exp hm, el_up hm]
    by_cases h0 : t % m = 0
    · have : (i - t) % m ≠ 0 := by
        intro hc
        apply hi
        have : i = t + (i - t) := by omega
        rw [this, Nat.add_mod, h0, hc]; simp
      rw [if_neg this, Int.mul_zero]
    · rw [if_neg h0, Int.zero_mul]
  · rw [if_neg ht]

/-! ### Filters -/
/-- One output of a filter. -/
def cvF (b f r o cf : Int) (h u : List Int) (n : Nat) : Int := reduceW b f r o (shiftF (cS h u n h.length) cf r)
/-- All outputs of a filter. -/
def filtF (b f r o cf : Int) (h u : List Int) : List Int := (List.range u.length).map (cvF b f r o cf h u)
/-- Raised, filtered, lowered. -/
def convF (b f r o cf : Int) (h : List Int) (up down : Nat) (x : List Int) : List Int := everyF (filtF b f r o cf h (upF x up)) 0 down
theorem filtF_length (b f r o cf : Int) (h u : List Int) : (filtF b f r o cf h u).length = u.length := by simp [filtF]
theorem filtF_get (b f r o cf : Int) (h u : List Int) (n : Nat) : (filtF b f r o cf h u)[n]? = if n < u.length then some (cvF b f r o cf h u n) else none := by
  unfold filtF
  rw [List.getElem?_map]
  by_cases hn : n < u.length
  · rw [List.getElem?_range hn, if_pos hn]; rfl
  · rw [List.getElem?_eq_none (by simpa using hn), if_neg hn]; rfl
theorem up_1 (x : List Int) : upF x 1 = x := by
  apply List.ext_getElem?
  intro i
  rw [upF_get]
  by_cases h : i < x.length
  · rw [if_pos (by omega), if_pos (Nat.mod_one i), Nat.div_one]
    rw [List.getElem?_eq_getElem h]; rfl
  · rw [if_neg (by omega), List.getElem?_eq_none (by omega)]
theorem every_1 (x : List Int) : everyF x 0 1 = x := by
  apply List.ext_getElem?
  intro i
  rw [everyF_get (by omega), Nat.zero_add, Nat.mul_one]
theorem every_up (x : List Int) {m : Nat} (hm : 1 ≤ m) : everyF (upF x m) 0 m = x := by
  apply List.ext_getElem?
  intro i
  rw [everyF_get hm, Nat.zero_add, upF_get, Nat.mul_mod_left, Nat.mul_div_cancel _ (by omega), if_pos rfl]
  by_cases h : i < x.length
  · rw [if_pos (by rw [Nat.mul_comm]; exact Nat.mul_lt_mul_of_pos_left h (by omega)), List.getElem?_eq_getElem h]; rfl
  · rw [if_neg (by rw [Nat.mul_comm i]; exact Nat.not_lt.2 (Nat.mul_le_mul_left _ (by omega))), List.getElem?_eq_none (by omega)]
theorem conv_1 (b f r o cf : Int) (h x : List Int) : convF b f r o cf h 1 1 x = filtF b f r o cf h x := by
  unfold convF; rw [up_1, every_1]
theorem conv_is (b f r o cf : Int) (h : List Int) (up down : Nat) (x : List Int) : convF b f r o cf h up down x = everyF (convF b f r o cf h 1 1 (upF x up)) 0 down := by
  rw [conv_1]; rfl
theorem noble_down (b f r o cf : Int) (h x : List Int) {m : Nat} (hm : 1 ≤ m) : everyF (convF b f r o cf (expF h m) 1 1 x) 0 m = convF b f r o cf h 1 1 (everyF x 0 m) := by
  rw [conv_1, conv_1]
  apply List.ext_getElem?
  intro n
  rw [everyF_get hm, Nat.zero_add, filtF_get, filtF_get]
  have e : (everyF x 0 m).length = cnt x.length 0 m := everyN_length _ _ _ _
  have := cnt_iff (n := x.length) (fr := 0) (k := n) hm
  rw [Nat.zero_add] at this
  by_cases hn : n * m < x.length
  · rw [if_pos hn, if_pos (by rw [e]; exact this.1 hn)]
    unfold cvF
    rw [noble_at h x hm]
  · rw [if_neg hn, if_neg (by rw [e]; exact fun hc => hn (this.2 hc))]
theorem noble_up (b f r o cf : Int) (h x : List Int) {m : Nat} (hm : 1 ≤ m) : upF (convF b f r o cf h 1 1 x) m = convF b f r o cf (expF h m) 1 1 (upF x m) := by
  rw [conv_1, conv_1]
  apply List.ext_getElem?
  intro i
  rw [upF_get, filtF_get, filtF_get, filtF_length]
  have e : (upF x m).length = m * x.length := upN_length _ _ _
  rw [e]
  by_cases hi : i < m * x.length
  · rw [if_pos hi, if_pos hi]
    by_cases h0 : i % m = 0
    · rw [if_pos h0]
      obtain ⟨k, rfl⟩ := Nat.dvd_of_mod_eq_zero h0
      have hk : k < x.length := Nat.lt_of_mul_lt_mul_left hi
      rw [Nat.mul_div_cancel_left _ (by omega), if_pos hk]
      unfold cvF
      rw [Nat.mul_comm m k, noble_at h (upF x m) hm, every_up x hm]; rfl
    · rw [if_neg h0]
      unfold cvF
      rw [noble_between h x hm h0, shift_0, reduce_0]
  · rw [if_neg hi, if_neg hi]
theorem filt_i64 (b f r o cf : Int) (h u : List Int) (n : Nat) : I64 (cvF b f r o cf h u n) := reduce_i64 _ _ _ _ _

/-! ### Errors -/
def fitsB (b f r o : Int) (l : List Int) : Bool := l.all (fitsW b f r o)
def convE (b f r o b' f' r' o' : Int) (h : List Int) (up down : Int) (x : List Int) : Int :=
  if (okW b f r o && okW b' f' r' o') = true then
    (if (inB up 1 12 && inB down 1 12) = true then
      (if 49 < h.length ∨ 4096 < x.length ∨ 4096 < up * x.length then 4
       else if (fitsB b' f' r' o' h && fitsB b f r o x) = true then 0 else 17)
     else 20)
  else 2
def convV (b f r o b' f' r' o' : Int) (h : List Int) (up down : Int) (x : List Int) : List Int :=
  if convE b f r o b' f' r' o' h up down x = 0 then convF b f r o f' h up.toNat down.toNat x else []
theorem conv_ok {b f r o b' f' r' o' : Int} {h x : List Int} {up down : Nat} (h1 : okW b f r o = true) (h2 : okW b' f' r' o' = true) (u1 : 1 ≤ up) (u2 : up ≤ 12) (d1 : 1 ≤ down) (d2 : down ≤ 12)
    (hl : h.length ≤ 49) (hx : x.length ≤ 4096) (hu : up * x.length ≤ 4096) (f1 : fitsB b' f' r' o' h = true) (f2 : fitsB b f r o x = true) :
    convE b f r o b' f' r' o' h up down x = 0 ∧ convV b f r o b' f' r' o' h up down x = convF b f r o f' h up down x := by
  have e : convE b f r o b' f' r' o' h up down x = 0 := by
    unfold convE
    rw [if_pos (by rw [h1, h2]; rfl), if_pos (by rw [Bool.and_eq_true, inB_iff, inB_iff]; omega), if_neg, if_pos (by rw [f1, f2]; rfl)]
    rw [← Int.natCast_mul]
    omega
  refine ⟨e, ?_⟩
  unfold convV
  rw [if_pos e]; simp
theorem conv_bad {b f r o b' f' r' o' : Int} {h x : List Int} {up down E : Int} (hE : convE b f r o b' f' r' o' h up down x = E) (h0 : E ≠ 0) : convV b f r o b' f' r' o' h up down x = [] := by
  unfold convV; rw [if_neg (by rw [hE]; exact h0)]
end Go.Proofs.Ytimhplkkgbpapaa
