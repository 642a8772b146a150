/- Plain facts on sums of products, and on wrapping a sum. No program in sight. -/
import Derived.Test.YtdmfafbfaelfnaaPr
namespace Go.Proofs.Ytdmfafbfaelfnaa
open Go.RowKit

/-- The sum of the first k products. -/
def dotN (c x : List Int) : Nat → Int
  | 0 => 0
  | k + 1 => dotN c x k + (c[k]?.getD 0) * (x[k]?.getD 0)
def dotV (c x : List Int) : Int := if c.length ≠ x.length then 0 else if 64 < c.length then 0 else if (smallB c 24 && smallB x 24) = true then dotN c x c.length else 0
def dotE (c x : List Int) : Int := if c.length ≠ x.length then 1 else if 64 < c.length then 4 else if (smallB c 24 && smallB x 24) = true then 0 else 17

theorem small_at {l : List Int} {n : Nat} (h : smallB l n = true) (k : Nat) : -2 ^ n ≤ l[k]?.getD 0 ∧ l[k]?.getD 0 ≤ 2 ^ n := by
  cases hx : l[k]? with
  | none => have := pow_pos' n; exact ⟨by simp; omega, by simp; omega⟩
  | some x => exact inB_iff.1 (List.all_eq_true.1 h x (List.mem_of_getElem? hx))

theorem dotN_bound {c x : List Int} (hc : smallB c 24 = true) (hx : smallB x 24 = true) (k : Nat) : -(k * 281474976710656) ≤ dotN c x k ∧ dotN c x k ≤ k * 281474976710656 := by
  induction k with
  | zero => simp [dotN]
  | succ k ih =>
    have h24 : (2 : Int) ^ 24 = 16777216 := by decide
    have h1 := small_at hc k
    have h2 := small_at hx k
    rw [h24] at h1 h2
    obtain ⟨m1, m2⟩ := mul_bound h1 h2
    simp only [dotN]
    omega

/-- Wrapping a wrapped number plus another one is wrapping the sum. -/
theorem wrap_add {b : Int} (h1 : 1 ≤ b) (h2 : b ≤ 62) (s d : Int) : wrapF b (wrapF b s + d) = wrapF b (s + d) := by
  have hi : inB b 1 62 = true := inB_iff.2 ⟨h1, h2⟩
  unfold wrapF
  simp only [hi, if_true]
  exact Int.bmod_add_bmod
theorem wrap_of_in {b s : Int} (h1 : 1 ≤ b) (h2 : b ≤ 62) (h3 : -2 ^ (b - 1).toNat ≤ s) (h4 : s < 2 ^ (b - 1).toNat) : wrapF b s = s := by
  obtain ⟨P, H, M, e1, e2, _, _, _, ⟨p1, p2⟩, ⟨m1, m2⟩, em, ew⟩ := wrap_facts h1 h2 s
  rw [w64_pow (by omega)] at e1 e2
  rw [show (b - 1).toNat = b.toNat - 1 by omega, e2] at h3 h4
  rw [ew]
  rcases Int.lt_or_le s 0 with hn | hn
  · have : s % P = s + P := by
      rw [← Int.add_emod_right s P, Int.emod_eq_of_lt (by omega) (by omega)]
    rw [if_neg (by omega)]; omega
  · have : s % P = s := Int.emod_eq_of_lt hn (by omega)
    rw [if_pos (by omega)]; omega
theorem wrap_zero {b : Int} (h1 : 1 ≤ b) (h2 : b ≤ 62) : wrapF b 0 = 0 :=
  wrap_of_in h1 h2 (by have := pow_pos' (b - 1).toNat; omega) (by have := pow_pos' (b - 1).toNat; omega)
theorem wrap_range {b : Int} (h1 : 1 ≤ b) (h2 : b ≤ 62) (s : Int) : -2 ^ (b - 1).toNat ≤ wrapF b s ∧ wrapF b s < 2 ^ (b - 1).toNat := by
  obtain ⟨P, H, M, e1, e2, _, _, _, ⟨p1, p2⟩, ⟨m1, m2⟩, em, ew⟩ := wrap_facts h1 h2 s
  rw [w64_pow (by omega)] at e1 e2
  rw [show (b - 1).toNat = b.toNat - 1 by omega, e2, ew]
  split <;> omega

theorem dotN_add {p q r : List Int} (s : List Int) (h : ∀ k : Nat, s[k]?.getD 0 = q[k]?.getD 0 + r[k]?.getD 0) (k : Nat) : dotN p s k = dotN p q k + dotN p r k := by
  induction k with
  | zero => rfl
  | succ k ih => simp only [dotN, ih, h, Int.mul_add]; omega

theorem dotN_congr {c x c' x' : List Int} {k : Nat} (h : ∀ j : Nat, j < k → c[j]?.getD 0 = c'[j]?.getD 0 ∧ x[j]?.getD 0 = x'[j]?.getD 0) : dotN c x k = dotN c' x' k := by
  induction k with
  | zero => rfl
  | succ k ih => simp only [dotN, ih (fun j hj => h j (by omega)), (h k (by omega)).1, (h k (by omega)).2]
theorem dotN_take {c x : List Int} {k : Nat} (hc : smallB (c.take k) 24 = true) (hx : smallB (x.take k) 24 = true) (hk : k ≤ 64) : -18014398509481984 ≤ dotN c x k ∧ dotN c x k ≤ 18014398509481984 := by
  have h1 := dotN_bound hc hx k
  have h2 : dotN (c.take k) (x.take k) k = dotN c x k := dotN_congr fun j hj => by simp [hj]
  rw [h2] at h1
  omega
theorem dot_of {c x : List Int} (hl : c.length = x.length) (h64 : c.length ≤ 64) (s : Bool) (hs : (smallB c 24 && smallB x 24) = s) :
    dotV c x = (if s = true then dotN c x c.length else 0) ∧ dotE c x = (if s = true then 0 else 17) := by
  unfold dotV dotE
  have n64 : ¬ 64 < c.length := by omega
  have nl : ¬ c.length ≠ x.length := not_not_intro hl
  simp only [if_neg n64, if_neg nl, hs, and_self]
end Go.Proofs.Ytdmfafbfaelfnaa
