/- Several texts in one: Pl W Fx Fy. -/
import Derived.WalkKit
import Derived.Laws.BitsAllLaws
import Derived.Laws.BitsLemmas
import Derived.BigQuiet
import Derived.BigGuardPart
import Derived.Deep.QuietTactic
import Derived.Lib.Hide
import Derived.Test.YtgdccmmcjicgkaaDoorRows
set_option linter.unusedVariables false
set_option linter.unusedSimpArgs false
section
namespace Go.Proofs.YtgdccmmcjicgkaaDoor
open Go.RowKit
def inB (v lo hi : Int) : Bool := decide (lo ≤ v) && decide (v ≤ hi)
def okW (b f r o : Int) : Bool := inB b 4 24 && (inB f 0 (b - 1) && (inB r 1 3 && inB o 1 2))
def lowW (b f r o : Int) : Int := if okW b f r o = true then -2 ^ (b - 1).toNat else 0
def highW (b f r o : Int) : Int := if okW b f r o = true then 2 ^ (b - 1).toNat - 1 else 0
def fitsW (b f r o v : Int) : Bool := okW b f r o && inB v (lowW b f r o) (highW b f r o)
def wrapF (b v : Int) : Int := if inB b 1 62 = true then Int.bmod v (2 ^ b.toNat) else 0
def satW (b f r o v : Int) : Int := min (max v (lowW b f r o)) (highW b f r o)
def reduceW (b f r o v : Int) : Int := if okW b f r o = true then (if o = 2 then wrapF b v else satW b f r o v) else 0
def shiftF (v n r : Int) : Int :=
  if (inB n 0 62 && inB r 1 3) = true then
    (if r = 2 then v / 2 ^ n.toNat + (if 0 < n then v / 2 ^ (n - 1).toNat % 2 else 0)
     else if r = 3 then v / 2 ^ n.toNat + (if v < 0 ∧ v % 2 ^ n.toNat ≠ 0 then 1 else 0) else v / 2 ^ n.toNat)
  else 0
def I64 (x : Int) : Prop := -9223372036854775808 ≤ x ∧ x ≤ 9223372036854775807
theorem ret_bool {a b : Bool} (h : a = b) : Ending.returned (.bool a) = .returned (.bool b) := by rw [h]
theorem ret_int {a b : Int} (h : a = b) : Ending.returned (.int .i64 a) = .returned (.int .i64 b) := by rw [h]
theorem bcell {W w1 : World} (hb : Below W.heap.size W w1) : (∀ b o, b < W.heap.size → w1.cell? ⟨b, o, none⟩ = W.cell? ⟨b, o, none⟩) ∧ (∀ b o, b < W.heap.size → w1.frozen? ⟨b, o, none⟩ = W.frozen? ⟨b, o, none⟩) :=
  ⟨fun b o h => hb.cell (p := ⟨b, o, none⟩) h, fun b o h => hb.frozen (p := ⟨b, o, none⟩) h⟩
theorem below_then {W w1 w2 : World} (h : Below W.heap.size W w1) (k : Below w1.heap.size w1 w2) : Below W.heap.size W w2 := h.trans (k.mono h.size)
theorem inB_iff {v lo hi : Int} : inB v lo hi = true ↔ lo ≤ v ∧ v ≤ hi := by simp [inB]
theorem inB_no {v lo hi : Int} : inB v lo hi = false ↔ v < lo ∨ hi < v := by
  rw [Bool.eq_false_iff, ne_eq, inB_iff]; omega
theorem okW_iff {b f r o : Int} : okW b f r o = true ↔ 4 ≤ b ∧ b ≤ 24 ∧ 0 ≤ f ∧ f ≤ b - 1 ∧ 1 ≤ r ∧ r ≤ 3 ∧ 1 ≤ o ∧ o ≤ 2 := by
  simp [okW, inB]; omega
theorem pow_pos' (n : Nat) : (1 : Int) ≤ 2 ^ n := Int.pow_pos (by decide : (0 : Int) < 2)
theorem pow_le {m n : Nat} (h : m ≤ n) : (2 : Int) ^ m ≤ 2 ^ n := by
  have h1 : 2 ^ m ≤ 2 ^ n := Nat.pow_le_pow_right (by decide) h
  have h2 : ((2 ^ m : Nat) : Int) ≤ ((2 ^ n : Nat) : Int) := Int.ofNat_le.2 h1
  simpa using h2
theorem pow62 : (2 : Int) ^ 62 = 4611686018427387904 := by decide
theorem pow_62 {n : Nat} (h : n ≤ 62) : (2 : Int) ^ n ≤ 4611686018427387904 := by have := pow_le h; rwa [pow62] at this
theorem pow_half {n : Nat} (h : 1 ≤ n) : (2 : Int) ^ n = 2 * 2 ^ (n - 1) := by
  obtain ⟨k, rfl⟩ : ∃ k, n = k + 1 := ⟨n - 1, by omega⟩
  rw [Int.pow_succ, Nat.add_sub_cancel]; omega
theorem w64_in {x : Int} (h1 : -9223372036854775808 ≤ x) (h2 : x ≤ 9223372036854775807) : wrap64 x = x := IntWalk.wrap64_in x ⟨h1, h2⟩
theorem w64_pow {n : Nat} (h : n ≤ 62) : wrap64 ((2 : Int) ^ n) = 2 ^ n := w64_in (by have := pow_pos' n; omega) (by have := pow_62 h; omega)
theorem w64_mask {n : Nat} (h : n ≤ 62) : wrap64 (wrap64 ((2 : Int) ^ n) - 1) = 2 ^ n - 1 := by
  rw [w64_pow h]; exact w64_in (by have := pow_pos' n; omega) (by have := pow_62 h; omega)
theorem and_mask (v : Int) {n : Nat} (h : n ≤ 62) : bits .and .i64 v ((2 : Int) ^ n - 1) = v % 2 ^ n := by
  have hp := pow_pos' n
  have hq := pow_62 h
  have e1 : (BitVec.ofInt 64 ((2 : Int) ^ n - 1)).toNat = 2 ^ n - 1 := by
    have h0 : ((2 ^ n : Nat) : Int) = 2 ^ n := by simp
    have h1 : (2 : Int) ^ n - 1 = ((2 ^ n - 1 : Nat) : Int) := by
      have := Nat.one_le_two_pow (n := n)
      omega
    rw [h1, BitVec.ofInt_natCast, BitVec.toNat_ofNat]
    exact Nat.mod_eq_of_lt (by omega)
  have e2 : (BitVec.ofInt 64 v).toNat = (v % 2 ^ 64).toNat := by rw [BitVec.toNat_ofInt]; rfl
  show IntKind.i64.wrap ((BitVec.ofInt 64 v &&& BitVec.ofInt 64 ((2 : Int) ^ n - 1)).toNat : Int) = _
  rw [BitVec.toNat_and, e1, e2, Nat.and_two_pow_sub_one_eq_mod]
  have e3 : (((v % 2 ^ 64).toNat % 2 ^ n : Nat) : Int) = v % 2 ^ n := by
    rw [Int.natCast_emod, Int.toNat_of_nonneg (Int.emod_nonneg _ (by decide)), Int.natCast_pow]
    exact Int.emod_emod_of_dvd v (by
      obtain ⟨k, hk⟩ : ∃ k, 64 = n + k := ⟨64 - n, by omega⟩
      rw [hk, Int.pow_add]; exact Int.dvd_mul_right _ _)
  rw [e3, IntKind.wrap_i64]
  have := Int.emod_nonneg v (by omega : (2 : Int) ^ n ≠ 0)
  have := Int.emod_lt_of_pos v (by omega : (0 : Int) < 2 ^ n)
  omega
theorem and_one (v : Int) : bits .and .i64 v 1 = v % 2 := by
  have := and_mask v (n := 1) (by decide)
  simpa using this
theorem wrap_facts {b : Int} (h1 : 1 ≤ b) (h2 : b ≤ 62) (v : Int) : ∃ P H M : Int, wrap64 (2 ^ b.toNat) = P ∧ wrap64 (2 ^ (b.toNat - 1)) = H ∧ bits .and .i64 v (P - 1) = M ∧
    2 ≤ P ∧ P ≤ 4611686018427387904 ∧ (P ≤ 2 * H ∧ 2 * H ≤ P) ∧ (0 ≤ M ∧ M < P) ∧ M = v % P ∧ wrapF b v = if M < H then M else M - P := by
  have hb : b.toNat ≤ 62 := by omega
  have hh := pow_half (n := b.toNat) (by omega)
  have hp := pow_pos' (b.toNat - 1)
  refine ⟨2 ^ b.toNat, 2 ^ (b.toNat - 1), v % 2 ^ b.toNat, w64_pow hb, w64_pow (by omega), and_mask v hb, by omega, pow_62 hb, by omega, ?_, rfl, ?_⟩
  · exact ⟨Int.emod_nonneg _ (by omega), Int.emod_lt_of_pos _ (by omega)⟩
  · unfold wrapF
    rw [if_pos (inB_iff.2 ⟨h1, h2⟩), Int.bmod_def]
    have e : ((2 ^ b.toNat : Nat) : Int) = 2 ^ b.toNat := by simp
    rw [e]
    have : ((2 : Int) ^ b.toNat + 1) / 2 = 2 ^ (b.toNat - 1) := by omega
    rw [this]
theorem low_bits {b f r o : Int} (h : okW b f r o = true) : wrap64 (-wrap64 (2 ^ (b.toNat - 1))) = lowW b f r o := by
  obtain ⟨h1, h2, _⟩ := okW_iff.1 h
  have hp := pow_pos' (b.toNat - 1)
  have hq := pow_62 (n := b.toNat - 1) (by omega)
  rw [w64_pow (by omega), w64_in (by omega) (by omega), lowW, if_pos h, show (b - 1).toNat = b.toNat - 1 by omega]
theorem high_bits {b f r o : Int} (h : okW b f r o = true) : wrap64 (wrap64 (2 ^ (b.toNat - 1)) - 1) = highW b f r o := by
  obtain ⟨h1, h2, _⟩ := okW_iff.1 h
  rw [w64_mask (by omega), highW, if_pos h, show (b - 1).toNat = b.toNat - 1 by omega]
theorem low_high (b f r o : Int) : -8388608 ≤ lowW b f r o ∧ lowW b f r o ≤ 0 ∧ 0 ≤ highW b f r o ∧ highW b f r o ≤ 8388607 := by
  unfold lowW highW
  split
  · rename_i h
    obtain ⟨h1, h2, _⟩ := okW_iff.1 h
    have hp := pow_pos' (b - 1).toNat
    have hq : (2 : Int) ^ (b - 1).toNat ≤ 2 ^ 23 := pow_le (by omega)
    have h23 : (2 : Int) ^ 23 = 8388608 := by decide
    omega
  · omega
theorem tmod_facts (v : Int) {P : Int} (h : 2 ≤ P) : ∃ T, v.tmod P = T ∧ (T = v % P ∨ (T < 0 ∧ T + P = v % P)) ∧ -P < T ∧ T < P := by
  refine ⟨v.tmod P, rfl, ?_, ?_, ?_⟩
  · have h1 := Int.tmod_eq_emod_of_nonneg (a := v) (b := P)
    rcases Int.le_total 0 v with h0 | h0
    · exact .inl (h1 h0)
    · have := Int.tmod_eq_emod (a := v) (b := P)
      rw [this]
      have h3 : (P.natAbs : Int) = P := by omega
      have h4 := Int.emod_lt_of_pos v (by omega : 0 < P)
      split
      · left; simp
      · right; omega
  · have := Int.lt_tmod_of_pos v (by omega : 0 < P); omega
  · exact Int.tmod_lt_of_pos v (by omega)
theorem shift_facts {n v : Int} (h1 : 1 ≤ n) (h2 : n ≤ 62) (hv : I64 v) : ∃ P M D C B : Int, wrap64 (2 ^ n.toNat) = P ∧ bits .and .i64 v (P - 1) = M ∧ v / 2 ^ n.toNat = D ∧ v / 2 ^ (n.toNat - 1) = C ∧ bits .and .i64 C 1 = B ∧
    2 ≤ P ∧ P ≤ 4611686018427387904 ∧ (0 ≤ M ∧ M < P) ∧ (-4611686018427387904 ≤ D ∧ D ≤ 4611686018427387904) ∧ (0 ≤ B ∧ B ≤ 1) ∧ (v = P * D + M) ∧
    shiftF v n 1 = D ∧ shiftF v n 2 = D + B ∧ shiftF v n 3 = (if v < 0 ∧ M ≠ 0 then D + 1 else D) ∧ M = v % P ∧ 2 ^ n.toNat = P := by
  obtain ⟨v1, v2⟩ := hv
  have hb : n.toNat ≤ 62 := by omega
  have hh := pow_half (n := n.toNat) (by omega)
  have hp := pow_pos' (n.toNat - 1)
  have hq := pow_62 hb
  have hd := Int.mul_ediv_add_emod v (2 ^ n.toNat)
  have hm1 := Int.emod_nonneg v (by omega : (2 : Int) ^ n.toNat ≠ 0)
  have hm2 := Int.emod_lt_of_pos v (by omega : (0 : Int) < 2 ^ n.toNat)
  have hin : inB n 0 62 = true := inB_iff.2 ⟨by omega, h2⟩
  refine ⟨2 ^ n.toNat, v % 2 ^ n.toNat, v / 2 ^ n.toNat, v / 2 ^ (n.toNat - 1), v / 2 ^ (n.toNat - 1) % 2, w64_pow hb, and_mask v hb, rfl, rfl, and_one _, by omega, hq, ⟨hm1, hm2⟩, ?_, ⟨by omega, by omega⟩, hd.symm, ?_, ?_, ?_, rfl, rfl⟩
  · have hP : (2 : Int) ≤ 2 ^ n.toNat := by omega
    generalize (2 : Int) ^ n.toNat = P at *
    generalize hD : v / P = D at *
    constructor
    · rcases Int.lt_or_le D (-4611686018427387904) with h | h
      · have : P * (D + 1) ≤ 2 * (D + 1) := Int.mul_le_mul_of_nonpos_right hP (by omega)
        rw [Int.mul_add] at this
        omega
      · exact h
    · rcases Int.lt_or_le 4611686018427387904 D with h | h
      · have : 2 * D ≤ P * D := Int.mul_le_mul_of_nonneg_right hP (by omega)
        omega
      · exact h
  · unfold shiftF
    rw [if_pos (by rw [hin]; decide), if_neg (by decide), if_neg (by decide)]
  · unfold shiftF
    rw [if_pos (by rw [hin]; decide), if_pos rfl, if_pos (by omega), show (n - 1).toNat = n.toNat - 1 by omega]
  · unfold shiftF
    rw [if_pos (by rw [hin]; decide), if_neg (by decide), if_pos rfl]
    split <;> omega
theorem shift_zero {v r : Int} (h1 : 1 ≤ r) (h2 : r ≤ 3) : shiftF v 0 r = v := by
  unfold shiftF
  rw [if_pos (by simp [inB]; omega)]
  have : v % 2 ^ (0 : Int).toNat = 0 := by simp
  split
  · simp
  · split
    · rw [if_neg (by omega)]; simp
    · simp
theorem shift_ref {n v : Int} (h1 : 0 ≤ n) (h2 : n ≤ 62) (hv : I64 v) : ∃ P R Q : Int, wrap64 (2 ^ n.toNat) = P ∧ v.tmod P = R ∧ v.tdiv P = Q ∧
    1 ≤ P ∧ P ≤ 4611686018427387904 ∧ (-P < R ∧ R < P) ∧ (-9223372036854775808 ≤ Q ∧ Q ≤ 9223372036854775807 ∧ (R < 0 → -9223372036854775808 < Q) ∧ (0 < R → Q < 9223372036854775807)) ∧
    (R < 0 → v < 0) ∧
    shiftF v n 1 = (if R < 0 then Q - 1 else Q) ∧
    shiftF v n 2 = (if R < 0 then Q - 1 else Q) + (if (if R < 0 then R + P else R) > P - 1 - (if R < 0 then R + P else R) ∧ 0 < n then 1 else 0) ∧
    shiftF v n 3 = (if R < 0 then Q - 1 else Q) + (if v < 0 ∧ 0 < (if R < 0 then R + P else R) then 1 else 0) := by
  obtain ⟨v1, v2⟩ := hv
  have hb : n.toNat ≤ 62 := by omega
  have hp := pow_pos' n.toNat
  have hq := pow_62 hb
  have hin : inB n 0 62 = true := inB_iff.2 ⟨h1, h2⟩
  have hm := Int.mul_tdiv_add_tmod v (2 ^ n.toNat)
  have hd := Int.mul_ediv_add_emod v (2 ^ n.toNat)
  have hm1 := Int.emod_nonneg v (by omega : (2 : Int) ^ n.toNat ≠ 0)
  have hm2 := Int.emod_lt_of_pos v (by omega : (0 : Int) < 2 ^ n.toNat)
  have ht1 := Int.lt_tmod_of_pos v (by omega : (0 : Int) < 2 ^ n.toNat)
  have ht2 := Int.tmod_lt_of_pos v (by omega : (0 : Int) < 2 ^ n.toNat)
  have hsg : v.tmod (2 ^ n.toNat) < 0 → v < 0 := by
    intro h
    rcases Int.lt_or_le v 0 with h0 | h0
    · exact h0
    · have := Int.tmod_nonneg (2 ^ n.toNat) h0; omega
  -- the quotients
  have key : (v.tmod (2 ^ n.toNat) < 0 ∧ v / 2 ^ n.toNat = v.tdiv (2 ^ n.toNat) - 1 ∧ v % 2 ^ n.toNat = v.tmod (2 ^ n.toNat) + 2 ^ n.toNat) ∨
      (0 ≤ v.tmod (2 ^ n.toNat) ∧ v / 2 ^ n.toNat = v.tdiv (2 ^ n.toNat) ∧ v % 2 ^ n.toNat = v.tmod (2 ^ n.toNat)) := by
    have hu : ∀ (q r : Int), v = 2 ^ n.toNat * q + r → 0 ≤ r → r < 2 ^ n.toNat → v / 2 ^ n.toNat = q ∧ v % 2 ^ n.toNat = r := by
      intro q r e r0 r1
      subst e
      have e1 : (2 ^ n.toNat * q + r) / 2 ^ n.toNat = q := by
        rw [Int.add_comm, Int.add_mul_ediv_left _ _ (by omega), Int.ediv_eq_zero_of_lt r0 r1]; omega
      have e2 : (2 ^ n.toNat * q + r) % 2 ^ n.toNat = r := by
        rw [Int.add_comm, Int.add_mul_emod_self_left, Int.emod_eq_of_lt r0 r1]
      exact ⟨e1, e2⟩
    rcases Int.lt_or_le (v.tmod (2 ^ n.toNat)) 0 with h | h
    · left
      have := hu (v.tdiv (2 ^ n.toNat) - 1) (v.tmod (2 ^ n.toNat) + 2 ^ n.toNat) (by rw [Int.mul_sub]; omega) (by omega) (by omega)
      exact ⟨h, this.1, this.2⟩
    · right
      have := hu (v.tdiv (2 ^ n.toNat)) (v.tmod (2 ^ n.toNat)) hm.symm h (by omega)
      exact ⟨h, this.1, this.2⟩
  have hP : (1 : Int) ≤ 2 ^ n.toNat := hp
  have near : (if 0 < n then v / 2 ^ (n - 1).toNat % 2 else 0) = (if v % 2 ^ n.toNat > 2 ^ n.toNat - 1 - v % 2 ^ n.toNat ∧ 0 < n then 1 else 0) := by
    by_cases h0 : 0 < n
    · rw [if_pos h0]
      have hh := pow_half (n := n.toNat) (by omega)
      rw [show (n - 1).toNat = n.toNat - 1 by omega]
      generalize (2 : Int) ^ (n.toNat - 1) = H at *
      rw [hh] at hm1 hm2 hd ⊢
      have hc : v / H % 2 = v % (2 * H) / H := by
        have e : v = v % (2 * H) + H * (2 * (v / (2 * H))) := by rw [← Int.mul_assoc, Int.mul_comm H 2]; omega
        have e1 : v / H = v % (2 * H) / H + 2 * (v / (2 * H)) := by
          conv => lhs; rw [e]
          rw [Int.add_mul_ediv_left _ _ (by omega)]
        rw [e1]
        have g1 : 0 ≤ v % (2 * H) / H := Int.ediv_nonneg hm1 (by omega)
        have g2 : v % (2 * H) / H < 2 := Int.ediv_lt_of_lt_mul (by omega) (by omega)
        omega
      rw [hc]
      by_cases hl : v % (2 * H) < H
      · rw [Int.ediv_eq_zero_of_lt hm1 hl, if_neg (by omega)]
      · rw [if_pos ⟨by omega, h0⟩]
        have : v % (2 * H) = (v % (2 * H) - H) + H * 1 := by omega
        rw [this, Int.add_mul_ediv_left _ _ (by omega), Int.ediv_eq_zero_of_lt (by omega) (by omega)]
        rfl
    · rw [if_neg h0, if_neg (by omega)]
  have fit : -9223372036854775808 ≤ v.tdiv (2 ^ n.toNat) ∧ v.tdiv (2 ^ n.toNat) ≤ 9223372036854775807 ∧ (v.tmod (2 ^ n.toNat) < 0 → -9223372036854775808 < v.tdiv (2 ^ n.toNat)) ∧ (0 < v.tmod (2 ^ n.toNat) → v.tdiv (2 ^ n.toNat) < 9223372036854775807) := by
    generalize (2 : Int) ^ n.toNat = P at *
    generalize v.tdiv P = Q at *
    generalize v.tmod P = R at *
    clear key near hd hm1 hm2
    rcases Int.lt_or_le Q 0 with hq0 | hq0
    · have : P * Q ≤ 1 * Q := Int.mul_le_mul_of_nonpos_right hP (by omega)
      have : R < 0 → P * Q < v + P := by omega
      refine ⟨?_, by omega, ?_, by omega⟩
      · rcases Int.lt_or_le R 1 with hr | hr
        · omega
        · have e0 : ¬ (R < 0) := by omega
          rcases Int.lt_or_le P 2 with hp2 | hp2
          · omega
          · have : P * (Q + 1) ≤ 2 * (Q + 1) := Int.mul_le_mul_of_nonpos_right hp2 (by omega)
            rw [Int.mul_add] at this
            omega
      · intro hr; omega
    · have : 1 * Q ≤ P * Q := Int.mul_le_mul_of_nonneg_right hP hq0
      refine ⟨by omega, ?_, by omega, by omega⟩
      rcases Int.lt_or_le R 0 with hr | hr
      · rcases Int.lt_or_le P 2 with hp2 | hp2
        · omega
        · rcases Int.lt_or_le 0 Q with hq1 | hq1
          · have : P * (Q - 1) ≥ 2 * (Q - 1) := Int.mul_le_mul_of_nonneg_right hp2 (by omega)
            rw [Int.mul_sub] at this
            omega
          · omega
      · omega
  refine ⟨2 ^ n.toNat, v.tmod (2 ^ n.toNat), v.tdiv (2 ^ n.toNat), w64_pow hb, rfl, rfl, hP, hq, ⟨ht1, ht2⟩, fit, hsg, ?_, ?_, ?_⟩
  · unfold shiftF
    rw [if_pos (by rw [hin]; decide), if_neg (by decide), if_neg (by decide)]
    rcases key with ⟨k1, k2, k3⟩ | ⟨k1, k2, k3⟩
    · rw [if_pos k1, k2]
    · rw [if_neg (by omega), k2]
  · unfold shiftF
    rw [if_pos (by rw [hin]; decide), if_pos rfl, near]
    rcases key with ⟨k1, k2, k3⟩ | ⟨k1, k2, k3⟩
    · simp only [if_pos k1, k2, k3]
    · simp only [if_neg (Int.not_lt.2 k1), k2, k3]
  · unfold shiftF
    rw [if_pos (by rw [hin]; decide), if_neg (by decide), if_pos rfl]
    rcases key with ⟨k1, k2, k3⟩ | ⟨k1, k2, k3⟩
    · simp only [if_pos k1, k2, k3]
      congr 1
      split <;> split <;> omega
    · simp only [if_neg (Int.not_lt.2 k1), k2, k3]
      congr 1
      split <;> split <;> omega
theorem sat_if (b f r o v : Int) : (if highW b f r o < if v < lowW b f r o then lowW b f r o else v then highW b f r o else if v < lowW b f r o then lowW b f r o else v) = satW b f r o v := by
  unfold satW
  generalize lowW b f r o = l
  generalize highW b f r o = h
  rw [Int.min_def, Int.max_def]
  split <;> split <;> (repeat' split) <;> omega
theorem max_if (v l : Int) : (if v < l then l else v) = max v l := by
  rw [Int.max_def]
  split <;> split <;> omega
theorem i64_of_wf {x : Int} (h : (Lit.int .i64 x).wf = true) : I64 x := by
  simp [Lit.wf, IntKind.min, IntKind.max, IntKind.signed, IntKind.bits] at h
  exact ⟨by omega, by omega⟩
theorem mul_bound {x y B C : Int} (hx : -B ≤ x ∧ x ≤ B) (hy : -C ≤ y ∧ y ≤ C) : -(B * C) ≤ x * y ∧ x * y ≤ B * C := by
  have hB : 0 ≤ B := by omega
  have hC : 0 ≤ C := by omega
  have h1 : 0 ≤ (B - x) * (C - y) := Int.mul_nonneg (by omega) (by omega)
  have h2 : 0 ≤ (B + x) * (C + y) := Int.mul_nonneg (by omega) (by omega)
  have h3 : 0 ≤ (B - x) * (C + y) := Int.mul_nonneg (by omega) (by omega)
  have h4 : 0 ≤ (B + x) * (C - y) := Int.mul_nonneg (by omega) (by omega)
  simp only [Int.sub_mul, Int.add_mul, Int.mul_sub, Int.mul_add] at h1 h2 h3 h4
  omega
end Go.Proofs.YtgdccmmcjicgkaaDoor
end
section
namespace Go.Proofs.YtgdccmmcjicgkaaDoor
open Go.RowKit
theorem below_drewN {B : Nat} {a w : World} (h : Below B a w) (n : Nat) : Below B a (w.drewN n) := ⟨h.os, h.tape, h.output, h.size, h.block⟩
structure Ext (w : World) where
  to : World
  below : Below w.heap.size w to
instance (w : World) : Nonempty (Ext w) := ⟨⟨w, Below.refl _ _⟩⟩
theorem Ext.cell {w : World} (n : Ext w) (p : Addr) (h : p.block < w.heap.size) : n.to.cell? p = w.cell? p := n.below.cell h
theorem Ext.frozen {w : World} (n : Ext w) (p : Addr) (h : p.block < w.heap.size) : n.to.frozen? p = w.frozen? p := n.below.frozen h
theorem wp_region_ext {P : Program} {id : Nat} {Q : Exit → Act → World → Prop} {a : Act} {w : World} {l : List Oper} (hm : P.follows .mixedOrders = true) (hB : Region.lexB .any l.toArray = true)
    (h : wpQuiet P l.toArray (fun w' => ∃ n : Ext w, w' = n.to) (fun a' => ∀ w', (∃ n : Ext w, w' = n.to) → Q .normal a' w') l a) : (Code.region id l.toArray true).wp P Q a w :=
  wp_region_quiet (C := fun w' => ∃ n : Ext w, w' = n.to) hm hB ⟨⟨{ w with drawn := w.drawn + 1 }, ⟨rfl, rfl, rfl, Nat.le_refl _, fun _ _ => rfl⟩⟩, rfl⟩ (by simpa using h)
theorem ext_call {P : Program} {f : FuncId} {args : Array Value} {w : World} {n : Ext w} {v : Value} {R : Ending → World → Prop} (h : Calls P f args n.to R)
    (hR : ∀ e w', R e w' → e = .returned v ∧ Below n.to.heap.size n.to w') : Calls P f args n.to fun e w'' => e = .returned v ∧ ∃ m : Ext w, w'' = m.to :=
  h.mono fun e w' hr => by
    obtain ⟨h1, h2⟩ := hR e w' hr
    exact ⟨h1, ⟨w', n.below.trans (h2.mono n.below.size)⟩, rfl⟩
theorem ext_below {P : Program} {f : FuncId} {args : Array Value} {w : World} {n : Ext w} {v : Value} (h : Calls P f args n.to fun e w' => e = .returned v ∧ Below n.to.heap.size n.to w') :
    Calls P f args n.to fun e w'' => e = .returned v ∧ ∃ m : Ext w, w'' = m.to := ext_call h fun _ _ h => h
theorem ext_same {P : Program} {f : FuncId} {args : Array Value} {w : World} {n : Ext w} {v : Value} (h : Calls P f args n.to fun e w' => e = .returned v ∧ n.to = w') :
    Calls P f args n.to fun e w'' => e = .returned v ∧ ∃ m : Ext w, w'' = m.to := ext_call h fun _ _ h => ⟨h.1, by rw [← h.2]; exact Below.refl _ _⟩
end Go.Proofs.YtgdccmmcjicgkaaDoor
end
section
namespace Go.Proofs.YtgdccmmcjicgkaaDoor
open Go.RowKit
abbrev wordV (b f r o : Int) : Value := .agg #[.int .i64 b, .int .i64 f, .int .i64 r, .int .i64 o]
theorem fx_mode (r : Int) (w : World) : Calls Tryd.prog 112 #[.int .i64 r] w fun e w' => e = .returned (.bool (inB r 1 3)) ∧ w = w' := by
  go_enter Tryd.func112, Tryd.ntmps112
  go_wp2
  all_goals go_ret
  all_goals exact ⟨ret_bool (by rw [Bool.eq_iff_iff]; simp [inB]; omega), rfl⟩
theorem rf_In (v lo hi : Int) (w : World) : Calls Tryd.prog 64 #[.int .i64 v, .int .i64 lo, .int .i64 hi] w fun e w' => e = .returned (.bool (inB v lo hi)) ∧ w = w' := by
  go_enter Tryd.func64, Tryd.ntmps64
  go_wp2
  all_goals go_ret
  all_goals exact ⟨ret_bool (by rw [Bool.eq_iff_iff]; simp [inB]; omega), rfl⟩
theorem fx_Valid (b f r o : Int) (w : World) : Calls Tryd.prog 73 #[wordV b f r o] w fun e w' => e = .returned (.bool (okW b f r o)) ∧ Below w.heap.size w w' := by
  go_enter Tryd.func73, Tryd.ntmps73
  go_wp2_with (go_at_call 112; refine (fx_mode _ _).mono ?_; rintro e w' ⟨rfl, rfl⟩)
  all_goals go_ret
  all_goals exact ⟨ret_bool (by rw [Bool.eq_iff_iff]; simp [inB, okW] at *; omega), (Below.refl _ _).alloc (Nat.le_refl _) _⟩
theorem rf_Valid (b f r o : Int) (w : World) : Calls Tryd.prog 75 #[wordV b f r o] w fun e w' => e = .returned (.bool (okW b f r o)) ∧ Below w.heap.size w w' := by
  go_enter Tryd.func75, Tryd.ntmps75
  go_wp2_with (go_at_call 64; refine (rf_In _ _ _ _).mono ?_; rintro e w' ⟨rfl, rfl⟩)
  all_goals go_ret
  all_goals exact ⟨ret_bool (by rw [Bool.eq_iff_iff]; simp [inB, okW, wrap64] at *; omega), (Below.refl _ _).alloc (Nat.le_refl _) _⟩
theorem fx_Valid_is {b f r o : Int} {c : Bool} (h : okW b f r o = c) (w : World) : Calls Tryd.prog 73 #[wordV b f r o] w fun e w' => e = .returned (.bool c) ∧ Below w.heap.size w w' := by
  subst h; exact fx_Valid _ _ _ _ _
theorem rf_Valid_is {b f r o : Int} {c : Bool} (h : okW b f r o = c) (w : World) : Calls Tryd.prog 75 #[wordV b f r o] w fun e w' => e = .returned (.bool c) ∧ Below w.heap.size w w' := by
  subst h; exact rf_Valid _ _ _ _ _
theorem fx_Low (b f r o : Int) (w : World) : Calls Tryd.prog 92 #[wordV b f r o] w fun e w' => e = .returned (.int .i64 (lowW b f r o)) ∧ Below w.heap.size w w' := by
  by_cases h : okW b f r o = true
  · obtain ⟨h1, h2, h3, h4, h5, h6, h7, h8⟩ := okW_iff.1 h
    go_enter Tryd.func92, Tryd.ntmps92
    go_wp2_with (go_at_call 73; refine (fx_Valid _ _ _ _ _).mono ?_; rintro e w' ⟨rfl, hb⟩; obtain ⟨hc, hf⟩ := bcell hb)
    go_ret
    exact ⟨ret_int (by rw [low_bits h]), ((Below.refl _ _).alloc (Nat.le_refl _) _).trans (hb.mono (by simp))⟩
  · have h0 : okW b f r o = false := by simpa using h
    go_enter Tryd.func92, Tryd.ntmps92
    go_wp2_with (go_at_call 73; refine (fx_Valid _ _ _ _ _).mono ?_; rintro e w' ⟨rfl, hb⟩; obtain ⟨hc, hf⟩ := bcell hb)
    go_ret
    exact ⟨ret_int (by simp [lowW, h]), ((Below.refl _ _).alloc (Nat.le_refl _) _).trans (hb.mono (by simp))⟩
theorem rf_Low (b f r o : Int) (w : World) : Calls Tryd.prog 56 #[wordV b f r o] w fun e w' => e = .returned (.int .i64 (lowW b f r o)) ∧ Below w.heap.size w w' := by
  by_cases h : okW b f r o = true
  · obtain ⟨h1, h2, h3, h4, h5, h6, h7, h8⟩ := okW_iff.1 h
    go_enter Tryd.func56, Tryd.ntmps56
    go_wp2_with (go_at_call 75; refine (rf_Valid _ _ _ _ _).mono ?_; rintro e w' ⟨rfl, hb⟩; obtain ⟨hc, hf⟩ := bcell hb)
    go_ret
    exact ⟨ret_int (by rw [low_bits h]), ((Below.refl _ _).alloc (Nat.le_refl _) _).trans (hb.mono (by simp))⟩
  · have h0 : okW b f r o = false := by simpa using h
    go_enter Tryd.func56, Tryd.ntmps56
    go_wp2_with (go_at_call 75; refine (rf_Valid _ _ _ _ _).mono ?_; rintro e w' ⟨rfl, hb⟩; obtain ⟨hc, hf⟩ := bcell hb)
    go_ret
    exact ⟨ret_int (by simp [lowW, h]), ((Below.refl _ _).alloc (Nat.le_refl _) _).trans (hb.mono (by simp))⟩
theorem fx_High (b f r o : Int) (w : World) : Calls Tryd.prog 93 #[wordV b f r o] w fun e w' => e = .returned (.int .i64 (highW b f r o)) ∧ Below w.heap.size w w' := by
  by_cases h : okW b f r o = true
  · obtain ⟨h1, h2, h3, h4, h5, h6, h7, h8⟩ := okW_iff.1 h
    go_enter Tryd.func93, Tryd.ntmps93
    go_wp2_with (go_at_call 73; refine (fx_Valid _ _ _ _ _).mono ?_; rintro e w' ⟨rfl, hb⟩; obtain ⟨hc, hf⟩ := bcell hb)
    go_ret
    exact ⟨ret_int (by rw [high_bits h]), ((Below.refl _ _).alloc (Nat.le_refl _) _).trans (hb.mono (by simp))⟩
  · have h0 : okW b f r o = false := by simpa using h
    go_enter Tryd.func93, Tryd.ntmps93
    go_wp2_with (go_at_call 73; refine (fx_Valid _ _ _ _ _).mono ?_; rintro e w' ⟨rfl, hb⟩; obtain ⟨hc, hf⟩ := bcell hb)
    go_ret
    exact ⟨ret_int (by simp [highW, h]), ((Below.refl _ _).alloc (Nat.le_refl _) _).trans (hb.mono (by simp))⟩
theorem rf_High (b f r o : Int) (w : World) : Calls Tryd.prog 57 #[wordV b f r o] w fun e w' => e = .returned (.int .i64 (highW b f r o)) ∧ Below w.heap.size w w' := by
  by_cases h : okW b f r o = true
  · obtain ⟨h1, h2, h3, h4, h5, h6, h7, h8⟩ := okW_iff.1 h
    go_enter Tryd.func57, Tryd.ntmps57
    go_wp2_with (go_at_call 75; refine (rf_Valid _ _ _ _ _).mono ?_; rintro e w' ⟨rfl, hb⟩; obtain ⟨hc, hf⟩ := bcell hb)
    go_ret
    exact ⟨ret_int (by rw [high_bits h]), ((Below.refl _ _).alloc (Nat.le_refl _) _).trans (hb.mono (by simp))⟩
  · have h0 : okW b f r o = false := by simpa using h
    go_enter Tryd.func57, Tryd.ntmps57
    go_wp2_with (go_at_call 75; refine (rf_Valid _ _ _ _ _).mono ?_; rintro e w' ⟨rfl, hb⟩; obtain ⟨hc, hf⟩ := bcell hb)
    go_ret
    exact ⟨ret_int (by simp [highW, h]), ((Below.refl _ _).alloc (Nat.le_refl _) _).trans (hb.mono (by simp))⟩
theorem fx_Wrap (b v : Int) (w : World) : Calls Tryd.prog 118 #[.int .i64 b, .int .i64 v] w fun e w' => e = .returned (.int .i64 (wrapF b v)) ∧ w = w' := by
  by_cases h : inB b 1 62 = true
  · obtain ⟨h1, h2⟩ := inB_iff.1 h
    obtain ⟨P, H, M, e1, e2, e3, a1, a2, a3, a4, a5, e4⟩ := wrap_facts h1 h2 v
    have E := Lib.hid e4
    clear e4 h a5
    go_enter Tryd.func118, Tryd.ntmps118
    go_wp2
    all_goals go_ret
    all_goals refine ⟨ret_int ?_, rfl⟩
    · rw [E.out, if_neg (by omega)]
    · rw [E.out, if_pos (by omega)]
  · have h' : inB b 1 62 = false := by simpa using h
    have := inB_no.1 h'
    have E : Hid (wrapF b v = 0) := by unfold wrapF; rw [if_neg h]; exact rfl
    clear h h'
    go_enter Tryd.func118, Tryd.ntmps118
    go_wp2
    all_goals go_ret
    all_goals exact ⟨ret_int E.out.symm, rfl⟩
theorem rf_Wrap (b v : Int) (w : World) : Calls Tryd.prog 109 #[.int .i64 b, .int .i64 v] w fun e w' => e = .returned (.int .i64 (wrapF b v)) ∧ w = w' := by
  by_cases h : inB b 1 62 = true
  · obtain ⟨h1, h2⟩ := inB_iff.1 h
    obtain ⟨P, H, M, e1, e2, e3, a1, a2, a3, a4, a5, e4⟩ := wrap_facts h1 h2 v
    obtain ⟨T, e5, e6, b1, b2⟩ := tmod_facts v a1
    have E := Lib.hid e4
    have E6 := Lib.hid e6
    have E5 := Lib.hid a5
    clear e4 e6 e2 e3 a5
    go_enter Tryd.func109, Tryd.ntmps109
    go_wp2_with (go_at_call 64; refine (rf_In _ _ _ _).mono ?_; rintro e w' ⟨rfl, rfl⟩)
    all_goals go_ret
    all_goals refine ⟨ret_int ?_, rfl⟩
    all_goals have E6' := E6.out
    all_goals have E5' := E5.out
    all_goals rw [E.out]
    · rw [if_neg (by omega)]; omega
    · rw [if_pos (by omega)]; omega
    · rw [if_neg (by omega)]; omega
    · rw [if_pos (by omega)]; omega
  · have h' : inB b 1 62 = false := by simpa using h
    have E : Hid (wrapF b v = 0) := by unfold wrapF; rw [if_neg h]; exact rfl
    clear h
    go_enter Tryd.func109, Tryd.ntmps109
    go_wp2_with (go_at_call 64; refine (rf_In _ _ _ _).mono ?_; rintro e w' ⟨rfl, rfl⟩)
    all_goals go_ret
    all_goals exact ⟨ret_int E.out.symm, rfl⟩
end Go.Proofs.YtgdccmmcjicgkaaDoor
end
section
namespace Go.Proofs.YtgdccmmcjicgkaaDoor
open Go.RowKit
set_option maxHeartbeats 1000000 in
theorem fx_Shift (v n r : Int) (w : World) (hv : I64 v) : Calls Tryd.prog 100 #[.int .i64 v, .int .i64 n, .int .i64 r] w fun e w' => e = .returned (.int .i64 (shiftF v n r)) ∧ Below w.heap.size w w' := by
  by_cases h : inB n 0 62 = true
  · obtain ⟨h1, h2⟩ := inB_iff.1 h
    by_cases h' : inB r 1 3 = true
    · obtain ⟨h3, h4⟩ := inB_iff.1 h'
      by_cases hn : n = 0
      · subst hn
        have E := Lib.hid (shift_zero (v := v) h3 h4)
        clear h1 h2
        go_enter Tryd.func100, Tryd.ntmps100
        go_wp2_with (go_at_call 112; refine (fx_mode _ _).mono ?_; rintro e w' ⟨rfl, rfl⟩)
        go_ret
        exact ⟨ret_int E.out.symm, Below.refl _ _⟩
      · have hn1 : 1 ≤ n := by omega
        obtain ⟨P, M, D, C, B, e1, e2, e3, e4, e5, a1, a2, a3, a4, a5, e6, f1, f2, f3, e7, e8⟩ := shift_facts hn1 h2 hv
        have E1 := Lib.hid f1
        have E2 := Lib.hid f2
        have E3 := Lib.hid f3
        clear h e6 f1 f2 f3 e7 e8
        have hr : r = 1 ∨ r = 2 ∨ r = 3 := by omega
        by_cases hv0 : v < 0
        · by_cases hm : M = 0
          · have hm' : (M != 0) = false := by simp [hm]
            have E3' : Hid (shiftF v n 3 = D) := by rw [E3.out, if_neg (by omega)]; exact rfl
            clear hm E3
            rcases hr with rfl | rfl | rfl
            all_goals
              go_enter Tryd.func100, Tryd.ntmps100
              go_wp2_with (go_at_call 112; refine (fx_mode _ _).mono ?_; rintro e w' ⟨rfl, rfl⟩)
              all_goals try (exfalso; omega)
              go_ret
              exact ⟨ret_int (by first | exact E1.out.symm | exact E2.out.symm | exact E3'.out.symm), (Below.refl _ _).alloc (Nat.le_refl _) _⟩
          · have hm' : (M != 0) = true := by simp [hm]
            have E3' : Hid (shiftF v n 3 = D + 1) := by rw [E3.out, if_pos ⟨by omega, by omega⟩]; exact rfl
            clear hm E3
            rcases hr with rfl | rfl | rfl
            all_goals
              go_enter Tryd.func100, Tryd.ntmps100
              go_wp2_with (go_at_call 112; refine (fx_mode _ _).mono ?_; rintro e w' ⟨rfl, rfl⟩)
              all_goals try (exfalso; omega)
              go_ret
              exact ⟨ret_int (by first | exact E1.out.symm | exact E2.out.symm | exact E3'.out.symm), (Below.refl _ _).alloc (Nat.le_refl _) _⟩
        · have E3' : Hid (shiftF v n 3 = D) := by rw [E3.out, if_neg (by omega)]; exact rfl
          clear E3
          rcases hr with rfl | rfl | rfl
          all_goals
            go_enter Tryd.func100, Tryd.ntmps100
            go_wp2_with (go_at_call 112; refine (fx_mode _ _).mono ?_; rintro e w' ⟨rfl, rfl⟩)
            all_goals try (exfalso; omega)
            go_ret
            exact ⟨ret_int (by first | exact E1.out.symm | exact E2.out.symm | exact E3'.out.symm), (Below.refl _ _).alloc (Nat.le_refl _) _⟩
    · have h'' : inB r 1 3 = false := by simpa using h'
      have E : Hid (shiftF v n r = 0) := by unfold shiftF; rw [if_neg (by simp [h, h''])]; exact rfl
      clear h h'
      go_enter Tryd.func100, Tryd.ntmps100
      go_wp2_with (go_at_call 112; refine (fx_mode _ _).mono ?_; rintro e w' ⟨rfl, rfl⟩)
      all_goals go_ret
      all_goals exact ⟨ret_int E.out.symm, Below.refl _ _⟩
  · have h' : inB n 0 62 = false := by simpa using h
    have hn := inB_no.1 h'
    have E : Hid (shiftF v n r = 0) := by unfold shiftF; rw [if_neg (by simp [h'])]; exact rfl
    clear h h'
    go_enter Tryd.func100, Tryd.ntmps100
    go_wp2_with (go_at_call 112; refine (fx_mode _ _).mono ?_; rintro e w' ⟨rfl, rfl⟩)
    all_goals go_ret
    all_goals exact ⟨ret_int E.out.symm, Below.refl _ _⟩
set_option maxHeartbeats 1000000 in
theorem rf_Shift (v n r : Int) (w : World) (hv : I64 v) : Calls Tryd.prog 69 #[.int .i64 v, .int .i64 n, .int .i64 r] w fun e w' => e = .returned (.int .i64 (shiftF v n r)) ∧ Below w.heap.size w w' := by
  by_cases h : inB n 0 62 = true
  · obtain ⟨h1, h2⟩ := inB_iff.1 h
    by_cases h' : inB r 1 3 = true
    · obtain ⟨h3, h4⟩ := inB_iff.1 h'
      have hr : r = 1 ∨ r = 2 ∨ r = 3 := by omega
      obtain ⟨P, R, Q, e1, e2, e3, a1, a2, a3, a4, f0, f1, f2, f3⟩ := shift_ref h1 h2 hv
      have E1 := Lib.hid f1
      have E2 := Lib.hid f2
      have E3 := Lib.hid f3
      have E0 := Lib.hid f0
      clear f0 f1 f2 f3
      rcases hr with rfl | rfl | rfl
      · go_enter Tryd.func69, Tryd.ntmps69
        go_wp2_with (go_at_call 64; refine (rf_In _ _ _ _).mono ?_; rintro e w' ⟨rfl, rfl⟩)
        go_quiet (fail)
        go_wp2
        all_goals go_ret
        · exact ⟨ret_int (by rw [E1.out, if_pos (by omega)]), below_drewN (Below.refl _ _) _⟩
        · exact ⟨ret_int (by rw [E1.out, if_neg (by omega)]), below_drewN (Below.refl _ _) _⟩
      · go_enter Tryd.func69, Tryd.ntmps69
        go_wp2_with (go_at_call 64; refine (rf_In _ _ _ _).mono ?_; rintro e w' ⟨rfl, rfl⟩)
        go_quiet (fail)
        go_wp2
        all_goals try (exfalso; omega)
        all_goals go_ret
        all_goals refine ⟨ret_int ?_, below_drewN (Below.refl _ _) _⟩
        all_goals have E0' := E0.out
        all_goals rw [E2.out]
        all_goals (show (_ : Int) = _; (repeat' split) <;> omega)
      · go_enter Tryd.func69, Tryd.ntmps69
        go_wp2_with (go_at_call 64; refine (rf_In _ _ _ _).mono ?_; rintro e w' ⟨rfl, rfl⟩)
        go_quiet (fail)
        go_wp2
        all_goals try (exfalso; omega)
        all_goals go_ret
        all_goals refine ⟨ret_int ?_, below_drewN (Below.refl _ _) _⟩
        all_goals have E0' := E0.out
        all_goals rw [E3.out]
        all_goals (show (_ : Int) = _; (repeat' split) <;> omega)
    · have h'' : inB r 1 3 = false := by simpa using h'
      have E : Hid (shiftF v n r = 0) := by unfold shiftF; rw [if_neg (by simp [h, h''])]; exact rfl
      clear h'
      go_enter Tryd.func69, Tryd.ntmps69
      go_wp2_with (go_at_call 64; refine (rf_In _ _ _ _).mono ?_; rintro e w' ⟨rfl, rfl⟩)
      all_goals go_ret
      all_goals exact ⟨ret_int E.out.symm, Below.refl _ _⟩
  · have h' : inB n 0 62 = false := by simpa using h
    have E : Hid (shiftF v n r = 0) := by unfold shiftF; rw [if_neg (by simp [h'])]; exact rfl
    clear h
    go_enter Tryd.func69, Tryd.ntmps69
    go_wp2_with (go_at_call 64; refine (rf_In _ _ _ _).mono ?_; rintro e w' ⟨rfl, rfl⟩)
    all_goals go_ret
    all_goals exact ⟨ret_int E.out.symm, Below.refl _ _⟩
end Go.Proofs.YtgdccmmcjicgkaaDoor
end
