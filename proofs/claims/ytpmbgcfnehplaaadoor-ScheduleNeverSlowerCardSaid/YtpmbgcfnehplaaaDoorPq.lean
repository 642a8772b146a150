/- Several texts in one: Pl Mp Mq Mn Ms Mj Mjp Nc Vp Vd. -/
import Derived.WalkKit
import Derived.Laws.BitsAllLaws
import Derived.Laws.BitsLemmas
section
/- Plain arithmetic of words: powers of two, masks, shifts, wrapping, saturation. No program in sight. -/
set_option linter.unusedVariables false
set_option linter.unusedSimpArgs false
namespace Go.Proofs.YtpmbgcfnehplaaaDoor
open Go.RowKit

/-- v lies from lo to hi. -/
def inB (v lo hi : Int) : Bool := decide (lo ≤ v) && decide (v ≤ hi)
def okW (b f r o : Int) : Bool := inB b 4 24 && (inB f 0 (b - 1) && (inB r 1 3 && inB o 1 2))
def lowW (b f r o : Int) : Int := if okW b f r o = true then -2 ^ (b - 1).toNat else 0
def highW (b f r o : Int) : Int := if okW b f r o = true then 2 ^ (b - 1).toNat - 1 else 0
def fitsW (b f r o v : Int) : Bool := okW b f r o && inB v (lowW b f r o) (highW b f r o)
def wrapF (b v : Int) : Int := if inB b 1 62 = true then Int.bmod v (2 ^ b.toNat) else 0
def satW (b f r o v : Int) : Int := min (max v (lowW b f r o)) (highW b f r o)
def reduceW (b f r o v : Int) : Int := if okW b f r o = true then (if o = 2 then wrapF b v else satW b f r o v) else 0
/-- v / 2^n, rounded: 1 down, 2 to the nearest, 3 toward zero. -/
def shiftF (v n r : Int) : Int :=
  if (inB n 0 62 && inB r 1 3) = true then
    (if r = 2 then v / 2 ^ n.toNat + (if 0 < n then v / 2 ^ (n - 1).toNat % 2 else 0)
     else if r = 3 then v / 2 ^ n.toNat + (if v < 0 ∧ v % 2 ^ n.toNat ≠ 0 then 1 else 0) else v / 2 ^ n.toNat)
  else 0

/-- A number of 64 bits. -/
def I64 (x : Int) : Prop := -9223372036854775808 ≤ x ∧ x ≤ 9223372036854775807

theorem ret_bool {a b : Bool} (h : a = b) : Ending.returned (.bool a) = .returned (.bool b) := by rw [h]
theorem ret_int {a b : Int} (h : a = b) : Ending.returned (.int .i64 a) = .returned (.int .i64 b) := by rw [h]

theorem bcell {W w1 : World} (hb : Below W.heap.size W w1) : (∀ b o, b < W.heap.size → w1.cell? ⟨b, o, none⟩ = W.cell? ⟨b, o, none⟩) ∧ (∀ b o, b < W.heap.size → w1.frozen? ⟨b, o, none⟩ = W.frozen? ⟨b, o, none⟩) :=
  ⟨fun b o h => hb.cell (p := ⟨b, o, none⟩) h, fun b o h => hb.frozen (p := ⟨b, o, none⟩) h⟩

theorem below_then {W w1 w2 : World} (h : Below W.heap.size W w1) (k : Below w1.heap.size w1 w2) : Below W.heap.size W w2 := h.trans (k.mono h.size)
theorem inB_iff {v lo hi : Int} : inB v lo hi = true ↔ lo ≤ v ∧ v ≤ hi := by simp [inB]
theorem inB_no {v lo hi : Int} : inB v lo hi = false ↔ v < lo ∨ hi < v := by
  rw [Bool.eq_false_iff, ne_eq, inB_iff]; omega
theorem okW_iff {b f r o : Int} : okW b f r o = true ↔ 4 ≤ b ∧ b ≤ 24 ∧ 0 ≤ f ∧ f ≤ b - 1 ∧ 1 ≤ r ∧ r ≤ 3 ∧ 1 ≤ o ∧ o ≤ 2 := by
  simp [okW, inB]; omega

/-! ### Powers of two -/
theorem pow_pos' (n : Nat) : (1 : Int) ≤ 2 ^ n := Int.pow_pos (by decide : (0 : Int) < 2)
theorem pow_le {m n : Nat} (h : m ≤ n) : (2 : Int) ^ m ≤ 2 ^ n := by
  have h1 : 2 ^ m ≤ 2 ^ n := Nat.pow_le_pow_right (by decide) h
  have h2 : ((2 ^ m : Nat) : Int) ≤ ((2 ^ n : Nat) : Int) := Int.ofNat_le.2 h1
  simpa using h2
theorem pow62 : (2 : Int) ^ 62 = 4611686018427387904 := by decide
theorem pow_62 {n : Nat} (h : n ≤ 62) : (2 : Int) ^ n ≤ 4611686018427387904 := by have := pow_le h; rwa [pow62] at this
theorem pow_half {n : Nat} (h : 1 ≤ n) : (2 : Int) ^ n = 2 * 2 ^ (n - 1) := by
  obtain ⟨k, rfl⟩ : ∃ k, n = k + 1 := ⟨n - 1, by omega⟩
  rw [Int.pow_succ, Nat.add_sub_cancel]; omega
theorem w64_in {x : Int} (h1 : -9223372036854775808 ≤ x) (h2 : x ≤ 9223372036854775807) : wrap64 x = x := IntWalk.wrap64_in x ⟨h1, h2⟩
theorem w64_pow {n : Nat} (h : n ≤ 62) : wrap64 ((2 : Int) ^ n) = 2 ^ n := w64_in (by have := pow_pos' n; omega) (by have := pow_62 h; omega)
theorem w64_mask {n : Nat} (h : n ≤ 62) : wrap64 (wrap64 ((2 : Int) ^ n) - 1) = 2 ^ n - 1 := by
  rw [w64_pow h]; exact w64_in (by have := pow_pos' n; omega) (by have := pow_62 h; omega)

/-- v & (2^n - 1) is v modulo 2^n. -/
theorem and_mask (v : Int) {n : Nat} (h : n ≤ 62) : bits .and .i64 v ((2 : Int) ^ n - 1) = v % 2 ^ n := by
  have hp := pow_pos' n
  have hq := pow_62 h
  have e1 : (BitVec.ofInt 64 ((2 : Int) ^ n - 1)).toNat = 2 ^ n - 1 := by
    have h0 : ((2 ^ n : Nat) : Int) = 2 ^ n := by simp
    have h1 : (2 : Int) ^ n - 1 = ((2 ^ n - 1 : Nat) : Int) := by
      have := Nat.one_le_two_pow (n := n)
      omega
    rw [h1, BitVec.ofInt_natCast, BitVec.toNat_ofNat]
    exact Nat.mod_eq_of_lt (by omega)
  have e2 : (BitVec.ofInt 64 v).toNat = (v % 2 ^ 64).toNat := by rw [BitVec.toNat_ofInt]; rfl
  show IntKind.i64.wrap ((BitVec.ofInt 64 v &&& BitVec.ofInt 64 ((2 : Int) ^ n - 1)).toNat : Int) = _
  rw [BitVec.toNat_and, e1, e2, Nat.and_two_pow_sub_one_eq_mod]
  have e3 : (((v % 2 ^ 64).toNat % 2 ^ n : Nat) : Int) = v % 2 ^ n := by
    rw [Int.natCast_emod, Int.toNat_of_nonneg (Int.emod_nonneg _ (by decide)), Int.natCast_pow]
    exact Int.emod_emod_of_dvd v (by
      obtain ⟨k, hk⟩ : ∃ k, 64 = n + k := ⟨64 - n, by omega⟩
      rw [hk, Int.pow_add]; exact Int.dvd_mul_right _ _)
  rw [e3, IntKind.wrap_i64]
  have := Int.emod_nonneg v (by omega : (2 : Int) ^ n ≠ 0)
  have := Int.emod_lt_of_pos v (by omega : (0 : Int) < 2 ^ n)
  omega

theorem and_one (v : Int) : bits .and .i64 v 1 = v % 2 := by
  have := and_mask v (n := 1) (by decide)
  simpa using this

/-- What Wrap computes, told by three numbers: P = 2^b, H = P / 2, M = v modulo P. -/
theorem wrap_facts {b : Int} (h1 : 1 ≤ b) (h2 : b ≤ 62) (v : Int) : ∃ P H M : Int, wrap64 (2 ^ b.toNat) = P ∧ wrap64 (2 ^ (b.toNat - 1)) = H ∧ bits .and .i64 v (P - 1) = M ∧
    2 ≤ P ∧ P ≤ 4611686018427387904 ∧ (P ≤ 2 * H ∧ 2 * H ≤ P) ∧ (0 ≤ M ∧ M < P) ∧ M = v % P ∧ wrapF b v = if M < H then M else M - P := by
  have hb : b.toNat ≤ 62 := by omega
  have hh := pow_half (n := b.toNat) (by omega)
  have hp := pow_pos' (b.toNat - 1)
  refine ⟨2 ^ b.toNat, 2 ^ (b.toNat - 1), v % 2 ^ b.toNat, w64_pow hb, w64_pow (by omega), and_mask v hb, by omega, pow_62 hb, by omega, ?_, rfl, ?_⟩
  · exact ⟨Int.emod_nonneg _ (by omega), Int.emod_lt_of_pos _ (by omega)⟩
  · unfold wrapF
    rw [if_pos (inB_iff.2 ⟨h1, h2⟩), Int.bmod_def]
    have e : ((2 ^ b.toNat : Nat) : Int) = 2 ^ b.toNat := by simp
    rw [e]
    have : ((2 : Int) ^ b.toNat + 1) / 2 = 2 ^ (b.toNat - 1) := by omega
    rw [this]

theorem low_bits {b f r o : Int} (h : okW b f r o = true) : wrap64 (-wrap64 (2 ^ (b.toNat - 1))) = lowW b f r o := by
  obtain ⟨h1, h2, _⟩ := okW_iff.1 h
  have hp := pow_pos' (b.toNat - 1)
  have hq := pow_62 (n := b.toNat - 1) (by omega)
  rw [w64_pow (by omega), w64_in (by omega) (by omega), lowW, if_pos h, show (b - 1).toNat = b.toNat - 1 by omega]
theorem high_bits {b f r o : Int} (h : okW b f r o = true) : wrap64 (wrap64 (2 ^ (b.toNat - 1)) - 1) = highW b f r o := by
  obtain ⟨h1, h2, _⟩ := okW_iff.1 h
  rw [w64_mask (by omega), highW, if_pos h, show (b - 1).toNat = b.toNat - 1 by omega]
theorem low_high (b f r o : Int) : -8388608 ≤ lowW b f r o ∧ lowW b f r o ≤ 0 ∧ 0 ≤ highW b f r o ∧ highW b f r o ≤ 8388607 := by
  unfold lowW highW
  split
  · rename_i h
    obtain ⟨h1, h2, _⟩ := okW_iff.1 h
    have hp := pow_pos' (b - 1).toNat
    have hq : (2 : Int) ^ (b - 1).toNat ≤ 2 ^ 23 := pow_le (by omega)
    have h23 : (2 : Int) ^ 23 = 8388608 := by decide
    omega
  · omega

theorem tmod_facts (v : Int) {P : Int} (h : 2 ≤ P) : ∃ T, v.tmod P = T ∧ (T = v % P ∨ (T < 0 ∧ T + P = v % P)) ∧ -P < T ∧ T < P := by
  refine ⟨v.tmod P, rfl, ?_, ?_, ?_⟩
  · have h1 := Int.tmod_eq_emod_of_nonneg (a := v) (b := P)
    rcases Int.le_total 0 v with h0 | h0
    · exact .inl (h1 h0)
    · have := Int.tmod_eq_emod (a := v) (b := P)
      rw [this]
      have h3 : (P.natAbs : Int) = P := by omega
      have h4 := Int.emod_lt_of_pos v (by omega : 0 < P)
      split
      · left; simp
      · right; omega
  · have := Int.lt_tmod_of_pos v (by omega : 0 < P); omega
  · exact Int.tmod_lt_of_pos v (by omega)

/-- What Shift computes for n from 1 to 62. -/
theorem shift_facts {n v : Int} (h1 : 1 ≤ n) (h2 : n ≤ 62) (hv : I64 v) : ∃ P M D C B : Int, wrap64 (2 ^ n.toNat) = P ∧ bits .and .i64 v (P - 1) = M ∧ v / 2 ^ n.toNat = D ∧ v / 2 ^ (n.toNat - 1) = C ∧ bits .and .i64 C 1 = B ∧
    2 ≤ P ∧ P ≤ 4611686018427387904 ∧ (0 ≤ M ∧ M < P) ∧ (-4611686018427387904 ≤ D ∧ D ≤ 4611686018427387904) ∧ (0 ≤ B ∧ B ≤ 1) ∧ (v = P * D + M) ∧
    shiftF v n 1 = D ∧ shiftF v n 2 = D + B ∧ shiftF v n 3 = (if v < 0 ∧ M ≠ 0 then D + 1 else D) ∧ M = v % P ∧ 2 ^ n.toNat = P := by
  obtain ⟨v1, v2⟩ := hv
  have hb : n.toNat ≤ 62 := by omega
  have hh := pow_half (n := n.toNat) (by omega)
  have hp := pow_pos' (n.toNat - 1)
  have hq := pow_62 hb
  have hd := Int.mul_ediv_add_emod v (2 ^ n.toNat)
  have hm1 := Int.emod_nonneg v (by omega : (2 : Int) ^ n.toNat ≠ 0)
  have hm2 := Int.emod_lt_of_pos v (by omega : (0 : Int) < 2 ^ n.toNat)
  have hin : inB n 0 62 = true := inB_iff.2 ⟨by omega, h2⟩
  refine ⟨2 ^ n.toNat, v % 2 ^ n.toNat, v / 2 ^ n.toNat, v / 2 ^ (n.toNat - 1), v / 2 ^ (n.toNat - 1) % 2, w64_pow hb, and_mask v hb, rfl, rfl, and_one _, by omega, hq, ⟨hm1, hm2⟩, ?_, ⟨by omega, by omega⟩, hd.symm, ?_, ?_, ?_, rfl, rfl⟩
  · have hP : (2 : Int) ≤ 2 ^ n.toNat := by omega
    generalize (2 : Int) ^ n.toNat = P at *
    generalize hD : v / P = D at *
    constructor
    · rcases Int.lt_or_le D (-4611686018427387904) with h | h
      · have : P * (D + 1) ≤ 2 * (D + 1) := Int.mul_le_mul_of_nonpos_right hP (by omega)
        rw [Int.mul_add] at this
        omega
      · exact h
    · rcases Int.lt_or_le 4611686018427387904 D with h | h
      · have : 2 * D ≤ P * D := Int.mul_le_mul_of_nonneg_right hP (by omega)
        omega
      · exact h
  · unfold shiftF
    rw [if_pos (by rw [hin]; decide), if_neg (by decide), if_neg (by decide)]
  · unfold shiftF
    rw [if_pos (by rw [hin]; decide), if_pos rfl, if_pos (by omega), show (n - 1).toNat = n.toNat - 1 by omega]
  · unfold shiftF
    rw [if_pos (by rw [hin]; decide), if_neg (by decide), if_pos rfl]
    split <;> omega

theorem shift_zero {v r : Int} (h1 : 1 ≤ r) (h2 : r ≤ 3) : shiftF v 0 r = v := by
  unfold shiftF
  rw [if_pos (by simp [inB]; omega)]
  have : v % 2 ^ (0 : Int).toNat = 0 := by simp
  split
  · simp
  · split
    · rw [if_neg (by omega)]; simp
    · simp

/-- What the reference of Shift computes: the truncated quotient Q and remainder R, turned to those that are rounded down. -/
theorem shift_ref {n v : Int} (h1 : 0 ≤ n) (h2 : n ≤ 62) (hv : I64 v) : ∃ P R Q : Int, wrap64 (2 ^ n.toNat) = P ∧ v.tmod P = R ∧ v.tdiv P = Q ∧
    1 ≤ P ∧ P ≤ 4611686018427387904 ∧ (-P < R ∧ R < P) ∧ (-9223372036854775808 ≤ Q ∧ Q ≤ 9223372036854775807 ∧ (R < 0 → -9223372036854775808 < Q) ∧ (0 < R → Q < 9223372036854775807)) ∧
    (R < 0 → v < 0) ∧
    shiftF v n 1 = (if R < 0 then Q - 1 else Q) ∧
    shiftF v n 2 = (if R < 0 then Q - 1 else Q) + (if (if R < 0 then R + P else R) > P - 1 - (if R < 0 then R + P else R) ∧ 0 < n then 1 else 0) ∧
    shiftF v n 3 = (if R < 0 then Q - 1 else Q) + (if v < 0 ∧ 0 < (if R < 0 then R + P else R) then 1 else 0) := by
  obtain ⟨v1, v2⟩ := hv
  have hb : n.toNat ≤ 62 := by omega
  have hp := pow_pos' n.toNat
  have hq := pow_62 hb
  have hin : inB n 0 62 = true := inB_iff.2 ⟨h1, h2⟩
  have hm := Int.mul_tdiv_add_tmod v (2 ^ n.toNat)
  have hd := Int.mul_ediv_add_emod v (2 ^ n.toNat)
  have hm1 := Int.emod_nonneg v (by omega : (2 : Int) ^ n.toNat ≠ 0)
  have hm2 := Int.emod_lt_of_pos v (by omega : (0 : Int) < 2 ^ n.toNat)
  have ht1 := Int.lt_tmod_of_pos v (by omega : (0 : Int) < 2 ^ n.toNat)
  have ht2 := Int.tmod_lt_of_pos v (by omega : (0 : Int) < 2 ^ n.toNat)
  have hsg : v.tmod (2 ^ n.toNat) < 0 → v < 0 := by
    intro h
    rcases Int.lt_or_le v 0 with h0 | h0
    · exact h0
    · have := Int.tmod_nonneg (2 ^ n.toNat) h0; omega
  -- the quotients
  have key : (v.tmod (2 ^ n.toNat) < 0 ∧ v / 2 ^ n.toNat = v.tdiv (2 ^ n.toNat) - 1 ∧ v % 2 ^ n.toNat = v.tmod (2 ^ n.toNat) + 2 ^ n.toNat) ∨
      (0 ≤ v.tmod (2 ^ n.toNat) ∧ v / 2 ^ n.toNat = v.tdiv (2 ^ n.toNat) ∧ v % 2 ^ n.toNat = v.tmod (2 ^ n.toNat)) := by
    have hu : ∀ (q r : Int), v = 2 ^ n.toNat * q + r → 0 ≤ r → r < 2 ^ n.toNat → v / 2 ^ n.toNat = q ∧ v % 2 ^ n.toNat = r := by
      intro q r e r0 r1
      subst e
      have e1 : (2 ^ n.toNat * q + r) / 2 ^ n.toNat = q := by
        rw [Int.add_comm, Int.add_mul_ediv_left _ _ (by omega), Int.ediv_eq_zero_of_lt r0 r1]; omega
      have e2 : (2 ^ n.toNat * q + r) % 2 ^ n.toNat = r := by
        rw [Int.add_comm, Int.add_mul_emod_self_left, Int.emod_eq_of_lt r0 r1]
      exact ⟨e1, e2⟩
    rcases Int.lt_or_le (v.tmod (2 ^ n.toNat)) 0 with h | h
    · left
      have := hu (v.tdiv (2 ^ n.toNat) - 1) (v.tmod (2 ^ n.toNat) + 2 ^ n.toNat) (by rw [Int.mul_sub]; omega) (by omega) (by omega)
      exact ⟨h, this.1, this.2⟩
    · right
      have := hu (v.tdiv (2 ^ n.toNat)) (v.tmod (2 ^ n.toNat)) hm.symm h (by omega)
      exact ⟨h, this.1, this.2⟩
  have hP : (1 : Int) ≤ 2 ^ n.toNat := hp
  have near : (if 0 < n then v / 2 ^ (n - 1).toNat % 2 else 0) = (if v % 2 ^ n.toNat > 2 ^ n.toNat - 1 - v % 2 ^ n.toNat ∧ 0 < n then 1 else 0) := by
    by_cases h0 : 0 < n
    · rw [if_pos h0]
      have hh := pow_half (n := n.toNat) (by omega)
      rw [show (n - 1).toNat = n.toNat - 1 by omega]
      generalize (2 : Int) ^ (n.toNat - 1) = H at *
      rw [hh] at hm1 hm2 hd ⊢
      have hc : v / H % 2 = v % (2 * H) / H := by
        have e : v = v % (2 * H) + H * (2 * (v / (2 * H))) := by rw [← Int.mul_assoc, Int.mul_comm H 2]; omega
        have e1 : v / H = v % (2 * H) / H + 2 * (v / (2 * H)) := by
          conv => lhs; rw [e]
          rw [Int.add_mul_ediv_left _ _ (by omega)]
        rw [e1]
        have g1 : 0 ≤ v % (2 * H) / H := Int.ediv_nonneg hm1 (by omega)
        have g2 : v % (2 * H) / H < 2 := Int.ediv_lt_of_lt_mul (by omega) (by omega)
        omega
      rw [hc]
      by_cases hl : v % (2 * H) < H
      · rw [Int.ediv_eq_zero_of_lt hm1 hl, if_neg (by omega)]
      · rw [if_pos ⟨by omega, h0⟩]
        have : v % (2 * H) = (v % (2 * H) - H) + H * 1 := by omega
        rw [this, Int.add_mul_ediv_left _ _ (by omega), Int.ediv_eq_zero_of_lt (by omega) (by omega)]
        rfl
    · rw [if_neg h0, if_neg (by omega)]
  have fit : -9223372036854775808 ≤ v.tdiv (2 ^ n.toNat) ∧ v.tdiv (2 ^ n.toNat) ≤ 9223372036854775807 ∧ (v.tmod (2 ^ n.toNat) < 0 → -9223372036854775808 < v.tdiv (2 ^ n.toNat)) ∧ (0 < v.tmod (2 ^ n.toNat) → v.tdiv (2 ^ n.toNat) < 9223372036854775807) := by
    generalize (2 : Int) ^ n.toNat = P at *
    generalize v.tdiv P = Q at *
    generalize v.tmod P = R at *
    clear key near hd hm1 hm2
    rcases Int.lt_or_le Q 0 with hq0 | hq0
    · have : P * Q ≤ 1 * Q := Int.mul_le_mul_of_nonpos_right hP (by omega)
      have : R < 0 → P * Q < v + P := by omega
      refine ⟨?_, by omega, ?_, by omega⟩
      · rcases Int.lt_or_le R 1 with hr | hr
        · omega
        · have e0 : ¬ (R < 0) := by omega
          rcases Int.lt_or_le P 2 with hp2 | hp2
          · omega
          · have : P * (Q + 1) ≤ 2 * (Q + 1) := Int.mul_le_mul_of_nonpos_right hp2 (by omega)
            rw [Int.mul_add] at this
            omega
      · intro hr; omega
    · have : 1 * Q ≤ P * Q := Int.mul_le_mul_of_nonneg_right hP hq0
      refine ⟨by omega, ?_, by omega, by omega⟩
      rcases Int.lt_or_le R 0 with hr | hr
      · rcases Int.lt_or_le P 2 with hp2 | hp2
        · omega
        · rcases Int.lt_or_le 0 Q with hq1 | hq1
          · have : P * (Q - 1) ≥ 2 * (Q - 1) := Int.mul_le_mul_of_nonneg_right hp2 (by omega)
            rw [Int.mul_sub] at this
            omega
          · omega
      · omega
  refine ⟨2 ^ n.toNat, v.tmod (2 ^ n.toNat), v.tdiv (2 ^ n.toNat), w64_pow hb, rfl, rfl, hP, hq, ⟨ht1, ht2⟩, fit, hsg, ?_, ?_, ?_⟩
  · unfold shiftF
    rw [if_pos (by rw [hin]; decide), if_neg (by decide), if_neg (by decide)]
    rcases key with ⟨k1, k2, k3⟩ | ⟨k1, k2, k3⟩
    · rw [if_pos k1, k2]
    · rw [if_neg (by omega), k2]
  · unfold shiftF
    rw [if_pos (by rw [hin]; decide), if_pos rfl, near]
    rcases key with ⟨k1, k2, k3⟩ | ⟨k1, k2, k3⟩
    · simp only [if_pos k1, k2, k3]
    · simp only [if_neg (Int.not_lt.2 k1), k2, k3]
  · unfold shiftF
    rw [if_pos (by rw [hin]; decide), if_neg (by decide), if_pos rfl]
    rcases key with ⟨k1, k2, k3⟩ | ⟨k1, k2, k3⟩
    · simp only [if_pos k1, k2, k3]
      congr 1
      split <;> split <;> omega
    · simp only [if_neg (Int.not_lt.2 k1), k2, k3]
      congr 1
      split <;> split <;> omega

theorem sat_if (b f r o v : Int) : (if highW b f r o < if v < lowW b f r o then lowW b f r o else v then highW b f r o else if v < lowW b f r o then lowW b f r o else v) = satW b f r o v := by
  unfold satW
  generalize lowW b f r o = l
  generalize highW b f r o = h
  rw [Int.min_def, Int.max_def]
  split <;> split <;> (repeat' split) <;> omega
theorem max_if (v l : Int) : (if v < l then l else v) = max v l := by
  rw [Int.max_def]
  split <;> split <;> omega

/-- v modulo m, from 0 on; 0 for m below 1. -/
def withinF (v m : Int) : Int := if m < 1 then 0 else v % m
theorem within_facts {m : Int} (h : 1 ≤ m) (v : Int) : ∃ T : Int, v.tmod m = T ∧ (-m < T ∧ T < m) ∧ (T < 0 → withinF v m = T + m) ∧ (0 ≤ T → withinF v m = T) := by
  have h1 := Int.tmod_eq_emod_of_nonneg (a := v) (b := m)
  have h2 := Int.lt_tmod_of_pos v (by omega : 0 < m)
  have h3 := Int.tmod_lt_of_pos v (by omega : 0 < m)
  have h4 := Int.emod_lt_of_pos v (by omega : 0 < m)
  have h5 := Int.emod_nonneg v (by omega : m ≠ 0)
  have key : withinF v m = v % m := by unfold withinF; rw [if_neg (by omega)]
  refine ⟨v.tmod m, rfl, ⟨h2, h3⟩, fun hn => ?_, fun hn => ?_⟩
  · rw [key]
    rcases Int.le_total 0 v with h0 | h0
    · rw [h1 h0] at hn; omega
    · have := Int.tmod_eq_emod (a := v) (b := m)
      have h6 : (m.natAbs : Int) = m := by omega
      split at this <;> omega
  · rw [key]
    have := Int.tmod_eq_emod (a := v) (b := m)
    have h6 : (m.natAbs : Int) = m := by omega
    split at this <;> omega
theorem within_in {m : Int} (h : 1 ≤ m) (v : Int) : 0 ≤ withinF v m ∧ withinF v m < m := by
  have h4 := Int.emod_lt_of_pos v (by omega : 0 < m)
  have h5 := Int.emod_nonneg v (by omega : m ≠ 0)
  unfold withinF
  rw [if_neg (by omega)]
  exact ⟨h5, h4⟩
theorem i64_of_wf {x : Int} (h : (Lit.int .i64 x).wf = true) : I64 x := by
  simp [Lit.wf, IntKind.min, IntKind.max, IntKind.signed, IntKind.bits] at h
  exact ⟨by omega, by omega⟩

/-! ### Shift: composed, kept in order, shifted back -/
theorem shift_down {v n : Int} (h1 : 0 ≤ n) (h2 : n ≤ 62) : shiftF v n 1 = v / 2 ^ n.toNat := by
  unfold shiftF
  rw [if_pos (by rw [inB_iff.2 ⟨h1, h2⟩]; decide), if_neg (by decide), if_neg (by decide)]
theorem shift_shift {v a b : Int} (ha : 0 ≤ a) (hb : 0 ≤ b) (hab : a + b ≤ 62) : shiftF (shiftF v a 1) b 1 = shiftF v (a + b) 1 := by
  rw [shift_down ha (by omega), shift_down hb (by omega), shift_down (by omega) hab, Int.toNat_add ha hb, Int.pow_add]
  exact Int.ediv_ediv_of_nonneg (Int.le_of_lt (Int.pow_pos (by decide)))
theorem shift_i64 {v n r : Int} (hv : I64 v) : I64 (shiftF v n r) := by
  by_cases h : (inB n 0 62 && inB r 1 3) = true
  · obtain ⟨g1, g2⟩ := inB_iff.1 (Bool.and_eq_true _ _ ▸ h).1
    obtain ⟨g3, g4⟩ := inB_iff.1 (Bool.and_eq_true _ _ ▸ h).2
    by_cases h0 : n = 0
    · subst h0; rw [shift_zero g3 g4]; exact hv
    · obtain ⟨P, M, D, C, B, _, _, _, _, _, _, _, _, ⟨b1, b2⟩, ⟨b3, b4⟩, _, f1, f2, f3, _, _⟩ := shift_facts (by omega) g2 hv
      rcases (show r = 1 ∨ r = 2 ∨ r = 3 by omega) with rfl | rfl | rfl
      · rw [f1]; exact ⟨by omega, by omega⟩
      · rw [f2]; exact ⟨by omega, by omega⟩
      · rw [f3]; split <;> exact ⟨by omega, by omega⟩
  · unfold shiftF; rw [if_neg h]; exact ⟨by decide, by decide⟩
theorem shift_mono {v u n r : Int} (hv : I64 v) (hu : I64 u) (h : v ≤ u) (n0 : 0 ≤ n) (n1 : n ≤ 62) (r0 : 1 ≤ r) (r1 : r ≤ 3) : shiftF v n r ≤ shiftF u n r := by
  by_cases h0 : n = 0
  · subst h0; rw [shift_zero r0 r1, shift_zero r0 r1]; exact h
  · obtain ⟨P, M, D, C, B, _, _, k3, k4, k5, k6, _, ⟨m1, m2⟩, _, ⟨b3, b4⟩, e, f1, f2, f3, _, kP⟩ := shift_facts (by omega) n1 hv
    obtain ⟨P', M', D', C', B', _, _, k3', k4', k5', _, _, ⟨m1', m2'⟩, _, ⟨b3', b4'⟩, e', f1', f2', f3', _, kP'⟩ := shift_facts (by omega) n1 hu
    obtain rfl : P = P' := by rw [← kP, ← kP']
    have hP : 0 < P := by omega
    -- the floors are in order
    have fl : D ≤ D' := by
      rcases Int.lt_or_le D' D with hc | hc
      · have : P * (D' + 1) ≤ P * D := Int.mul_le_mul_of_nonneg_left (by omega) (by omega)
        rw [Int.mul_add] at this
        omega
      · exact hc
    have flH : C ≤ C' := by
      rw [← k4, ← k4']
      exact Int.ediv_le_ediv (Int.pow_pos (by decide)) h
    have halves : ∀ {x X Y Z : Int}, x / 2 ^ n.toNat = X → x / 2 ^ (n.toNat - 1) = Y → bits .and .i64 Y 1 = Z → X + Z = (Y + 1) / 2 := by
      intro x X Y Z g1 g2 g3
      rw [and_one] at g3
      have : X = Y / 2 := by
        rw [← g1, ← g2, Int.ediv_ediv_of_nonneg (Int.le_of_lt (Int.pow_pos (by decide))), pow_half (n := n.toNat) (by omega), Int.mul_comm 2]
      omega
    rcases (show r = 1 ∨ r = 2 ∨ r = 3 by omega) with rfl | rfl | rfl
    · rw [f1, f1']; exact fl
    · rw [f2, f2', halves k3 k4 k5, halves k3' k4' k5']; omega
    · rw [f3, f3']
      split
      · split
        · omega
        · rename_i c1 c2
          have hD : D < 0 := by
            rcases Int.lt_or_le D 0 with hc | hc
            · exact hc
            · have := Int.mul_nonneg (by omega : 0 ≤ P) hc
              omega
          rcases Int.lt_or_le u 0 with hu0 | hu0
          · have hm0 : M' = 0 := by
              rcases Int.lt_trichotomy M' 0 with hh | hh | hh
              · omega
              · exact hh
              · exact absurd ⟨hu0, by omega⟩ c2
            rcases Int.lt_or_le D D' with hc | hc
            · omega
            · have : D' = D := by omega
              subst this
              omega
          · have hD' : 0 ≤ D' := by
              rcases Int.lt_or_le D' 0 with hc | hc
              · have : P * (D' + 1) ≤ 0 := Int.mul_nonpos_of_nonneg_of_nonpos (by omega) (by omega)
                rw [Int.mul_add] at this
                omega
              · exact hc
            omega
      · split <;> omega

/-- A number below 2^40, shifted by n below 20 and shifted back. -/
theorem rounds_facts {v n : Int} (hv : -1099511627776 < v ∧ v < 1099511627776) (n0 : 0 ≤ n) (n1 : n < 20) : ∃ P A B C : Int, wrap64 (2 ^ n.toNat) = P ∧ (1 ≤ P ∧ P ≤ 524288) ∧
    wrap64 (shiftF v n 1 * P) = A ∧ wrap64 (shiftF v n 2 * P) = B ∧ wrap64 (shiftF v n 3 * P) = C ∧
    (A ≤ v ∧ v - A < P) ∧ (2 * (B - v) ≤ P ∧ 2 * (v - B) ≤ P) ∧ (v < 0 → v ≤ C ∧ C ≤ 0 ∧ C - v < P) ∧ (0 ≤ v → 0 ≤ C ∧ C ≤ v ∧ v - C < P) := by
  have hb : (2 : Int) ^ n.toNat ≤ 2 ^ 19 := pow_le (by omega)
  have h19 : (2 : Int) ^ 19 = 524288 := by decide
  have hp := pow_pos' n.toNat
  have hI : I64 v := ⟨by omega, by omega⟩
  by_cases h0 : n = 0
  · subst h0
    refine ⟨1, v, v, v, by show wrap64 (2 ^ 0) = 1; rw [w64_pow (by decide)]; rfl, by decide, ?_, ?_, ?_, by omega, by omega, by omega, by omega⟩
    all_goals rw [shift_zero (by decide) (by decide), Int.mul_one]; exact w64_in (by omega) (by omega)
  · obtain ⟨P, M, D, C, B, _, _, k3, k4, k5, k6, _, ⟨m1, m2⟩, _, ⟨b3, b4⟩, e, f1, f2, f3, _, kP⟩ := shift_facts (n := n) (by omega) (by omega) hI
    have c5 : D + B = (C + 1) / 2 ∧ C * 2 ≤ 2 * (2 * D + B) ∧ C = 2 * D + B := by
      rw [and_one] at k5
      have : D = C / 2 := by
        rw [← k3, ← k4, Int.ediv_ediv_of_nonneg (Int.le_of_lt (Int.pow_pos (by decide))), pow_half (n := n.toNat) (by omega), Int.mul_comm 2]
      omega
    have hh := pow_half (n := n.toNat) (by omega)
    have e2 : v = 2 ^ (n.toNat - 1) * C + v % 2 ^ (n.toNat - 1) := by rw [← k4]; exact (Int.mul_ediv_add_emod v _).symm
    have e3 := Int.emod_nonneg v (by have := pow_pos' (n.toNat - 1); omega : (2 : Int) ^ (n.toNat - 1) ≠ 0)
    have e4 := Int.emod_lt_of_pos v (by have := pow_pos' (n.toNat - 1); omega : (0 : Int) < 2 ^ (n.toNat - 1))
    have hH : 2 * 2 ^ (n.toNat - 1) = P := by omega
    generalize (2 : Int) ^ (n.toNat - 1) = H at *
    generalize v % H = R at *
    have e5 : H * C = H * (2 * D) + H * B := by rw [c5.2.2, Int.mul_add]
    have e6 : H * (2 * D) = P * D := by rw [← Int.mul_assoc, Int.mul_comm H 2, hH]
    have e7 : D * P = P * D := Int.mul_comm _ _
    have e8 : (D + B) * P = P * D + P * B := by rw [Int.mul_comm, Int.mul_add]
    have e9 : (D + 1) * P = P * D + P := by rw [Int.mul_comm, Int.mul_add, Int.mul_one]
    have eB : B = 0 ∨ B = 1 := by omega
    refine ⟨P, P * D, P * D + P * B, if v < 0 ∧ M ≠ 0 then P * D + P else P * D, by rw [kP]; exact w64_in (by omega) (by omega), ⟨by omega, by omega⟩, ?_, ?_, ?_, ⟨by omega, by omega⟩, ?_, ?_, ?_⟩
    · rw [f1, e7]; exact w64_in (by omega) (by omega)
    · rw [f2, e8]
      rcases eB with rfl | rfl
      · rw [Int.mul_zero]; exact w64_in (by omega) (by omega)
      · rw [Int.mul_one]; exact w64_in (by omega) (by omega)
    · rw [f3]
      split
      · rw [e9]; exact w64_in (by omega) (by omega)
      · rw [e7]; exact w64_in (by omega) (by omega)
    · rcases eB with rfl | rfl
      · rw [Int.mul_zero] at *; omega
      · rw [Int.mul_one] at *; omega
    · intro hn
      split
      · rename_i c
        refine ⟨by omega, ?_, by omega⟩
        have hD : D < 0 := by
          rcases Int.lt_or_le D 0 with hc | hc
          · exact hc
          · have := Int.mul_nonneg (by omega : 0 ≤ P) hc
            omega
        have := Int.mul_nonpos_of_nonneg_of_nonpos (by omega : 0 ≤ P) (by omega : D + 1 ≤ 0)
        rw [Int.mul_add] at this
        omega
      · omega
    · intro hn
      rw [if_neg (by omega)]
      refine ⟨?_, by omega, by omega⟩
      have : 0 ≤ D := by
        rcases Int.lt_or_le D 0 with hc | hc
        · have := Int.mul_nonpos_of_nonneg_of_nonpos (by omega : 0 ≤ P) (by omega : D + 1 ≤ 0)
          rw [Int.mul_add] at this
          omega
        · exact hc
      exact Int.mul_nonneg (by omega) this
theorem mul_bound {x y B C : Int} (hx : -B ≤ x ∧ x ≤ B) (hy : -C ≤ y ∧ y ≤ C) : -(B * C) ≤ x * y ∧ x * y ≤ B * C := by
  have hB : 0 ≤ B := by omega
  have hC : 0 ≤ C := by omega
  have h1 : 0 ≤ (B - x) * (C - y) := Int.mul_nonneg (by omega) (by omega)
  have h2 : 0 ≤ (B + x) * (C + y) := Int.mul_nonneg (by omega) (by omega)
  have h3 : 0 ≤ (B - x) * (C + y) := Int.mul_nonneg (by omega) (by omega)
  have h4 : 0 ≤ (B + x) * (C - y) := Int.mul_nonneg (by omega) (by omega)
  simp only [Int.sub_mul, Int.add_mul, Int.mul_sub, Int.mul_add] at h1 h2 h3 h4
  omega

end Go.Proofs.YtpmbgcfnehplaaaDoor
end
section
/- Plain lists: raising and lowering the rate, phases, expansion. No program in sight. -/
set_option linter.unusedVariables false
set_option linter.unusedSimpArgs false
namespace Go.Proofs.YtpmbgcfnehplaaaDoor
open Go.RowKit

/-- Raised by l, of the first k elements only (the others are still 0). -/
def upN (x : List Int) (l k : Nat) : List Int := (List.range (l * x.length)).map fun i => if i % l = 0 ∧ i / l < k then x[i / l]?.getD 0 else 0
def upF (x : List Int) (l : Nat) : List Int := upN x l x.length
theorem upN_length (x : List Int) (l k : Nat) : (upN x l k).length = l * x.length := by simp [upN]
theorem upN_zero (x : List Int) (l : Nat) : upN x l 0 = List.replicate (l * x.length) 0 := by
  apply List.ext_getElem?
  intro i
  simp only [upN, List.getElem?_map, List.getElem?_replicate]
  rcases Nat.lt_or_ge i (l * x.length) with h | h
  · rw [List.getElem?_range h]; simp [h]
  · rw [List.getElem?_eq_none (by simpa using h)]; simp; omega
theorem upN_succ {x : List Int} {l k : Nat} {y : Int} (hl : 1 ≤ l) (hk : x[k]? = some y) : upN x l (k + 1) = (upN x l k).set (k * l) y := by
  have hkl := (List.getElem?_eq_some_iff.1 hk).1
  have hlt : k * l < l * x.length := by rw [Nat.mul_comm l]; exact Nat.mul_lt_mul_of_pos_right hkl (by omega)
  apply List.ext_getElem?
  intro i
  rw [List.getElem?_set]
  simp only [upN, List.getElem?_map, List.length_map, List.length_range]
  rcases Nat.lt_or_ge i (l * x.length) with h | h
  · rw [List.getElem?_range h]
    simp only [Option.map_some]
    by_cases e : k * l = i
    · subst e
      rw [if_pos rfl, if_pos hlt]
      have e1 : k * l % l = 0 := Nat.mul_mod_left k l
      have e2 : k * l / l = k := Nat.mul_div_cancel _ (by omega)
      rw [e1, e2, if_pos ⟨rfl, by omega⟩, hk]; rfl
    · rw [if_neg e]
      congr 1
      by_cases hm : i % l = 0
      · have hd := Nat.div_add_mod i l
        rw [hm, Nat.add_zero, Nat.mul_comm] at hd
        have hne : i / l ≠ k := fun h => e (by rw [← h]; exact hd)
        simp only [hm, true_and]
        by_cases h1 : i / l < k
        · rw [if_pos (by omega), if_pos h1]
        · rw [if_neg (by omega), if_neg h1]
      · simp [hm]
  · have hr : (List.range (l * x.length))[i]? = none := List.getElem?_eq_none (by simpa using h)
    rw [if_neg (by omega), hr]; rfl

/-- The elements with the indices from, from + m and so on. -/
def cnt (n fr m : Nat) : Nat := (n - fr + m - 1) / m
def everyN (x : List Int) (fr m k : Nat) : List Int := (List.range k).map fun i => x[fr + i * m]?.getD 0
def everyF (x : List Int) (fr m : Nat) : List Int := everyN x fr m (cnt x.length fr m)
theorem everyN_succ {x : List Int} {fr m k : Nat} {y : Int} (h : x[fr + k * m]? = some y) : everyN x fr m (k + 1) = everyN x fr m k ++ [y] := by
  simp [everyN, List.range_succ, h]
theorem everyN_length (x : List Int) (fr m k : Nat) : (everyN x fr m k).length = k := by simp [everyN]
theorem cnt_iff {n fr m k : Nat} (hm : 1 ≤ m) : fr + k * m < n ↔ k < cnt n fr m := by
  unfold cnt
  have h1 : k < (n - fr + m - 1) / m ↔ k + 1 ≤ (n - fr + m - 1) / m := by omega
  rw [h1, Nat.le_div_iff_mul_le (by omega), Nat.add_mul]
  omega
theorem cnt_le (n fr m : Nat) (hm : 1 ≤ m) : cnt n fr m ≤ n := by
  rcases Nat.lt_or_ge n (cnt n fr m) with h | h
  · have := (cnt_iff (n := n) (fr := fr) (k := n) hm).2 h
    have : n * 1 ≤ n * m := Nat.mul_le_mul_left n hm
    omega
  · exact h

/-- Errors of changes of the rate. -/
def upE (n : Nat) (l : Int) : Int := if (inB l 1 12) = true then (if 4096 < n ∨ 4096 < l * n then 4 else 0) else 20
def downE (n : Nat) (m : Int) : Int := if (inB m 1 12) = true then (if 4096 < n then 4 else 0) else 20
def upV (x : List Int) (l : Int) : List Int := if upE x.length l = 0 then upF x l.toNat else []
def downV (x : List Int) (m : Int) : List Int := if downE x.length m = 0 then everyF x 0 m.toNat else []
theorem upV_of {x : List Int} {l : Nat} (h : upE x.length l = 0) : upV x l = upF x l := by unfold upV; rw [if_pos h, Int.toNat_natCast]
theorem upV_no {x : List Int} {l : Int} (h : upE x.length l ≠ 0) : upV x l = [] := by unfold upV; rw [if_neg h]
theorem downV_of {x : List Int} {l : Nat} (h : downE x.length l = 0) : downV x l = everyF x 0 l := by unfold downV; rw [if_pos h, Int.toNat_natCast]
theorem downV_no {x : List Int} {l : Int} (h : downE x.length l ≠ 0) : downV x l = [] := by unfold downV; rw [if_neg h]
end Go.Proofs.YtpmbgcfnehplaaaDoor
end
section
/- Plain lists: the phases of a list, and their merge. -/
set_option linter.unusedVariables false
set_option linter.unusedSimpArgs false
namespace Go.Proofs.YtpmbgcfnehplaaaDoor
open Go.RowKit

/-- The first k phases of m. -/
def phN (x : List Int) (m k : Nat) : List (List Int) := (List.range m).map fun i => if i < k then everyF x i m else []
def phF (x : List Int) (m : Nat) : List (List Int) := phN x m m
def phV (x : List Int) (m : Int) : List (List Int) := if downE x.length m = 0 then phF x m.toNat else []
theorem phN_length (x : List Int) (m k : Nat) : (phN x m k).length = m := by simp [phN]
theorem phN_zero (x : List Int) (m : Nat) : phN x m 0 = List.replicate m [] := by
  apply List.ext_getElem?
  intro i
  simp only [phN, List.getElem?_map, List.getElem?_replicate]
  rcases Nat.lt_or_ge i m with h | h
  · rw [List.getElem?_range h]; simp [h]
  · rw [List.getElem?_eq_none (by simpa using h)]; simp; omega
theorem phN_at {x : List Int} {m k : Nat} (h : k < m) : (phN x m k)[k]? = some [] := by
  simp only [phN, List.getElem?_map, List.getElem?_range h]; simp
theorem phN_succ {x : List Int} {m k : Nat} (h : k < m) : phN x m (k + 1) = (phN x m k).set k (everyF x k m) := by
  apply List.ext_getElem?
  intro i
  rw [List.getElem?_set]
  simp only [phN, List.getElem?_map, List.length_map, List.length_range]
  by_cases e : k = i
  · subst e; rw [if_pos rfl, if_pos h, List.getElem?_range h]; simp
  · rw [if_neg e]
    rcases Nat.lt_or_ge i m with hi | hi
    · rw [List.getElem?_range hi]
      simp only [Option.map_some]
      by_cases h1 : i < k
      · rw [if_pos (by omega), if_pos h1]
      · rw [if_neg (by omega), if_neg h1]
    · rw [List.getElem?_eq_none (by simpa using hi)]; rfl
theorem phV_of {x : List Int} {l : Nat} (h : downE x.length l = 0) : phV x l = phF x l := by unfold phV; rw [if_pos h, Int.toNat_natCast]
theorem phV_no {x : List Int} {l : Int} (h : downE x.length l ≠ 0) : phV x l = [] := by unfold phV; rw [if_neg h]

/-- The number of all elements. -/
def total (p : List (List Int)) : Nat := (p.map List.length).sum
def mergeE (p : List (List Int)) : Int := if inB p.length 1 12 = true then (if 4096 < total p then 4 else if (∀ j, j < p.length → (p[j]?.getD []).length = cnt (total p) j p.length) then 0 else 1) else 20
def mergeN (p : List (List Int)) (k : Nat) : List Int := (List.range (total p)).map fun i => if i < k then (p[i % p.length]?.getD [])[i / p.length]?.getD 0 else 0
def mergeF (p : List (List Int)) : List Int := mergeN p (total p)
def mergeV (p : List (List Int)) : List Int := if mergeE p = 0 then mergeF p else []
theorem mergeN_length (p : List (List Int)) (k : Nat) : (mergeN p k).length = total p := by simp [mergeN]
theorem mergeN_zero (p : List (List Int)) : mergeN p 0 = List.replicate (total p) 0 := by
  apply List.ext_getElem?
  intro i
  simp only [mergeN, List.getElem?_map, List.getElem?_replicate]
  rcases Nat.lt_or_ge i (total p) with h | h
  · rw [List.getElem?_range h]; simp [h]
  · rw [List.getElem?_eq_none (by simpa using h)]; simp; omega
theorem mergeN_succ {p : List (List Int)} {k : Nat} {l : List Int} {y : Int} (h : k < total p) (h1 : p[k % p.length]? = some l) (h2 : l[k / p.length]? = some y) : mergeN p (k + 1) = (mergeN p k).set k y := by
  apply List.ext_getElem?
  intro i
  rw [List.getElem?_set]
  simp only [mergeN, List.getElem?_map, List.length_map, List.length_range]
  by_cases e : k = i
  · subst e; rw [if_pos rfl, if_pos h, List.getElem?_range h]; simp [h1, h2]
  · rw [if_neg e]
    rcases Nat.lt_or_ge i (total p) with hi | hi
    · rw [List.getElem?_range hi]
      simp only [Option.map_some]
      by_cases h1 : i < k
      · rw [if_pos (by omega), if_pos h1]
      · rw [if_neg (by omega), if_neg h1]
    · rw [List.getElem?_eq_none (by simpa using hi)]; rfl
theorem sum_take_succ {p : List (List Int)} {k : Nat} {l : List Int} (h : p[k]? = some l) : total (p.take (k + 1)) = total (p.take k) + l.length := by
  unfold total; rw [List.take_add_one, h]; simp
theorem total_le {p : List (List Int)} {B : Nat} (h : ∀ l ∈ p, l.length ≤ B) : total p ≤ p.length * B := by
  induction p with
  | nil => simp [total]
  | cons a t ih =>
    have h1 := h a (by simp)
    have h2 := ih (fun l hl => h l (by simp [hl]))
    simp [total] at h2 ⊢
    rw [Nat.add_mul]; omega
theorem total_take_le (p : List (List Int)) (k : Nat) : total (p.take k) ≤ total p := by
  have : total p = total (p.take k) + total (p.drop k) := by
    unfold total; rw [← List.sum_append, ← List.map_append, List.take_append_drop]
  omega
end Go.Proofs.YtpmbgcfnehplaaaDoor
end
section
/- Plain laws of raising and lowering. -/
set_option linter.unusedVariables false
set_option linter.unusedSimpArgs false
namespace Go.Proofs.YtpmbgcfnehplaaaDoor
open Go.RowKit

def exB0 (x : List Int) (l m : Nat) : Bool := everyF (upF x l) 0 m == upF (everyF x 0 m) l
theorem upF_get (x : List Int) (l i : Nat) : (upF x l)[i]? = if i < l * x.length then some (if i % l = 0 then x[i / l]?.getD 0 else 0) else none := by
  unfold upF upN
  rw [List.getElem?_map]
  by_cases h : i < l * x.length
  · rw [List.getElem?_range h, if_pos h]
    have hd : i / l < x.length := (Nat.div_lt_iff_lt_mul (by rcases Nat.eq_zero_or_pos l with h0 | h0; (subst h0; simp at h); exact h0)).2 (by rw [Nat.mul_comm]; exact h)
    simp [hd]
  · rw [if_neg h, List.getElem?_eq_none (by simpa using h)]; rfl
theorem everyF_get {x : List Int} {fr m : Nat} (hm : 1 ≤ m) (i : Nat) : (everyF x fr m)[i]? = x[fr + i * m]? := by
  unfold everyF everyN
  rw [List.getElem?_map]
  by_cases h : i < cnt x.length fr m
  · rw [List.getElem?_range h]
    have := (cnt_iff (n := x.length) (fr := fr) (k := i) hm).2 h
    simp [List.getElem?_eq_getElem this]
  · have h2 : ¬ fr + i * m < x.length := fun hc => h ((cnt_iff hm).1 hc)
    rw [List.getElem?_eq_none (by simpa using h), List.getElem?_eq_none (by omega)]; rfl
theorem cnt_mul {m k : Nat} (hm : 1 ≤ m) : cnt (m * k) 0 m = k := by
  unfold cnt
  rw [Nat.sub_zero, show m * k + m - 1 = m - 1 + m * k by omega, Nat.add_mul_div_left _ _ (by omega), Nat.div_eq_of_lt (by omega)]
  omega
theorem up_up (x : List Int) {a b : Nat} (_ha : 1 ≤ a) (hb : 1 ≤ b) : upF (upF x a) b = upF x (a * b) := by
  apply List.ext_getElem?
  intro i
  rw [upF_get (upF x a) b, upF_get x (a * b), upF_get x a, show (upF x a).length = a * x.length from upN_length _ _ _]
  rw [show b * (a * x.length) = a * b * x.length by rw [← Nat.mul_assoc, Nat.mul_comm b a]]
  by_cases h : i < a * b * x.length
  · rw [if_pos h, if_pos h]
    congr 1
    have h1 : i / b < a * x.length := (Nat.div_lt_iff_lt_mul (by omega)).2 (by rw [Nat.mul_assoc, Nat.mul_comm b, ← Nat.mul_assoc] at h; exact h)
    rw [if_pos h1, Nat.div_div_eq_div_mul, Nat.mul_comm b a]
    have hm : i % (a * b) = i % b + b * (i / b % a) := by rw [Nat.mul_comm, Nat.mod_mul]
    by_cases h2 : i % b = 0
    · rw [if_pos h2]
      simp only [Option.getD_some]
      by_cases h3 : i / b % a = 0
      · rw [if_pos h3, if_pos (by rw [hm, h2, h3]; simp)]
      · rw [if_neg h3, if_neg]
        rw [hm, h2, Nat.zero_add]
        exact Nat.ne_of_gt (Nat.mul_pos (by omega) (by omega))
    · rw [if_neg h2, if_neg (by rw [hm]; omega)]
  · rw [if_neg h, if_neg h]
theorem every_every (x : List Int) {a b : Nat} (ha : 1 ≤ a) (hb : 1 ≤ b) : everyF (everyF x 0 a) 0 b = everyF x 0 (a * b) := by
  apply List.ext_getElem?
  intro i
  rw [everyF_get hb, everyF_get ha, everyF_get (Nat.mul_pos ha hb)]
  congr 1
  simp only [Nat.zero_add]
  rw [Nat.mul_assoc, Nat.mul_comm b a]
theorem ex_one {x : List Int} {l m k : Nat} (hl : 1 ≤ l) (hm : 1 ≤ m) (hg : Nat.gcd l m = 1) (hn : x.length = m * k) : exB0 x l m = true := by
  unfold exB0
  rw [beq_iff_eq]
  apply List.ext_getElem?
  intro i
  rw [everyF_get hm, upF_get, upF_get, show (everyF x 0 m).length = cnt x.length 0 m from everyN_length _ _ _ _, hn, cnt_mul hm, Nat.zero_add]
  have e : i * m < l * (m * k) ↔ i < l * k := by
    rw [show l * (m * k) = l * k * m by rw [Nat.mul_comm m k, Nat.mul_assoc]]
    exact Nat.mul_lt_mul_right (by omega)
  by_cases h : i < l * k
  · rw [if_pos h, if_pos (e.2 h)]
    congr 1
    by_cases h2 : i % l = 0
    · obtain ⟨j, rfl⟩ := Nat.dvd_of_mod_eq_zero h2
      rw [if_pos (by rw [Nat.mul_assoc]; exact Nat.mul_mod_right _ _), if_pos h2, everyF_get hm, Nat.zero_add, Nat.mul_assoc, Nat.mul_div_cancel_left _ (by omega), Nat.mul_div_cancel_left _ (by omega)]
    · rw [if_neg h2, if_neg]
      intro hc
      exact h2 (Nat.mod_eq_zero_of_dvd (Nat.Coprime.dvd_of_dvd_mul_right hg (Nat.dvd_of_mod_eq_zero hc)))
  · rw [if_neg h, if_neg (fun hc => h (e.1 hc))]
/-- 1, 2, 3 and so on, of the first k only. -/
def onN (m k : Nat) : List Int := (List.range m).map fun i => if i < k then (i : Int) + 1 else 0
theorem onN_length (m k : Nat) : (onN m k).length = m := by simp [onN]
theorem onN_zero (m : Nat) : onN m 0 = List.replicate m 0 := by
  apply List.ext_getElem?
  intro i
  simp only [onN, List.getElem?_map, List.getElem?_replicate]
  rcases Nat.lt_or_ge i m with h | h
  · rw [List.getElem?_range h]; simp [h]
  · rw [List.getElem?_eq_none (by simpa using h)]; simp; omega
theorem onN_succ {m k : Nat} (h : k < m) : onN m (k + 1) = (onN m k).set k ((k : Int) + 1) := by
  apply List.ext_getElem?
  intro i
  rw [List.getElem?_set]
  simp only [onN, List.getElem?_map, List.length_map, List.length_range]
  by_cases e : k = i
  · subst e; rw [if_pos rfl, if_pos h, List.getElem?_range h]; simp
  · rw [if_neg e]
    rcases Nat.lt_or_ge i m with hi | hi
    · rw [List.getElem?_range hi]
      simp only [Option.map_some]
      by_cases h1 : i < k
      · rw [if_pos (by omega), if_pos h1]
      · rw [if_neg (by omega), if_neg h1]
    · rw [List.getElem?_eq_none (by simpa using hi)]; rfl
theorem ex_all : ∀ l, l < 13 → ∀ m, m < 13 → 1 ≤ l → 1 ≤ m → exB0 (onN m m) l m = (Nat.gcd l m == 1) := by decide +kernel
end Go.Proofs.YtpmbgcfnehplaaaDoor
end
section
/- Plain lists: expansion. -/
set_option linter.unusedVariables false
set_option linter.unusedSimpArgs false
namespace Go.Proofs.YtpmbgcfnehplaaaDoor
open Go.RowKit

/-- The first k elements, with m - 1 zeros between neighbours. -/
def exLen (m k : Nat) : Nat := if k = 0 then 0 else (k - 1) * m + 1
def exN (x : List Int) (m k : Nat) : List Int := (List.range (exLen m k)).map fun i => if i % m = 0 then x[i / m]?.getD 0 else 0
def expF (x : List Int) (m : Nat) : List Int := exN x m x.length
/-- The same length throughout, of the first k elements only. -/
def gridN (x : List Int) (m k : Nat) : List Int := (List.range (exLen m x.length)).map fun i => if i % m = 0 ∧ i / m < k then x[i / m]?.getD 0 else 0
def expE (n : Nat) (m : Int) : Int := if (inB m 1 12) = true then (if 4096 < n ∨ 4096 < ((n : Int) - 1) * m + 1 then 4 else 0) else 20
def expV (x : List Int) (m : Int) : List Int := if expE x.length m = 0 then expF x m.toNat else []
theorem expV_of {x : List Int} {l : Nat} (h : expE x.length l = 0) : expV x l = expF x l := by unfold expV; rw [if_pos h, Int.toNat_natCast]
theorem expV_no {x : List Int} {l : Int} (h : expE x.length l ≠ 0) : expV x l = [] := by unfold expV; rw [if_neg h]
theorem exN_length (x : List Int) (m k : Nat) : (exN x m k).length = exLen m k := by simp [exN]
theorem gridN_length (x : List Int) (m k : Nat) : (gridN x m k).length = exLen m x.length := by simp [gridN]
theorem exLen_succ {m k : Nat} (hm : 1 ≤ m) (hk : 1 ≤ k) : exLen m (k + 1) = exLen m k + (m - 1) + 1 := by
  unfold exLen
  rw [if_neg (by omega), if_neg (by omega)]
  obtain ⟨j, rfl⟩ : ∃ j, k = j + 1 := ⟨k - 1, by omega⟩
  simp only [Nat.add_sub_cancel]
  rw [Nat.add_mul]; omega
theorem gridN_zero (x : List Int) (m : Nat) : gridN x m 0 = List.replicate (exLen m x.length) 0 := by
  apply List.ext_getElem?
  intro i
  simp only [gridN, List.getElem?_map, List.getElem?_replicate]
  rcases Nat.lt_or_ge i (exLen m x.length) with h | h
  · rw [List.getElem?_range h]; simp [h]
  · rw [List.getElem?_eq_none (by simpa using h)]; simp; omega
theorem exLen_lt {m k n : Nat} (hk : k < n) : k * m < exLen m n := by
  unfold exLen
  rw [if_neg (by omega)]
  have : k * m ≤ (n - 1) * m := Nat.mul_le_mul_right _ (by omega)
  omega
theorem gridN_succ {x : List Int} {m k : Nat} {y : Int} (hm : 1 ≤ m) (hk : x[k]? = some y) : gridN x m (k + 1) = (gridN x m k).set (k * m) y := by
  have hkl := (List.getElem?_eq_some_iff.1 hk).1
  have hlt := exLen_lt (m := m) hkl
  apply List.ext_getElem?
  intro i
  rw [List.getElem?_set]
  simp only [gridN, List.getElem?_map, List.length_map, List.length_range]
  rcases Nat.lt_or_ge i (exLen m x.length) with h | h
  · rw [List.getElem?_range h]
    simp only [Option.map_some]
    by_cases e : k * m = i
    · subst e
      rw [if_pos rfl, if_pos hlt]
      have e1 : k * m % m = 0 := Nat.mul_mod_left k m
      have e2 : k * m / m = k := Nat.mul_div_cancel _ (by omega)
      rw [e1, e2, if_pos ⟨rfl, by omega⟩, hk]; rfl
    · rw [if_neg e]
      congr 1
      by_cases hmm : i % m = 0
      · have hd := Nat.div_add_mod i m
        rw [hmm, Nat.add_zero, Nat.mul_comm] at hd
        have hne : i / m ≠ k := fun h => e (by rw [← h]; exact hd)
        simp only [hmm, true_and]
        by_cases h1 : i / m < k
        · rw [if_pos (by omega), if_pos h1]
        · rw [if_neg (by omega), if_neg h1]
      · simp [hmm]
  · have hr : (List.range (exLen m x.length))[i]? = none := List.getElem?_eq_none (by simpa using h)
    rw [if_neg (by omega), hr]; rfl
theorem gridN_all {x : List Int} {m : Nat} (hm : 1 ≤ m) : gridN x m x.length = expF x m := by
  apply List.ext_getElem?
  intro i
  simp only [gridN, expF, exN, List.getElem?_map]
  rcases Nat.lt_or_ge i (exLen m x.length) with h | h
  · rw [List.getElem?_range h]
    simp only [Option.map_some]
    have hd : i / m < x.length := by
      unfold exLen at h
      split at h
      · omega
      · have h2 : i / m < x.length - 1 + 1 := by
          rw [Nat.div_lt_iff_lt_mul (by omega), Nat.add_mul]; omega
        omega
    simp [hd]
  · rw [List.getElem?_eq_none (by simpa using h)]; rfl
theorem exN_one {x : List Int} {m : Nat} {y : Int} (h : x[0]? = some y) : exN x m 1 = [y] := by
  simp [exN, exLen, h]
theorem exN_succ {x : List Int} {m k : Nat} {y : Int} (hm : 1 ≤ m) (hk : 1 ≤ k) (h : x[k]? = some y) : exN x m (k + 1) = exN x m k ++ List.replicate (m - 1) 0 ++ [y] := by
  have hl := exLen_succ hm hk
  have e0 : exLen m k = (k - 1) * m + 1 := by unfold exLen; rw [if_neg (by omega)]
  have ek : k * m = (k - 1) * m + m := by
    obtain ⟨j, rfl⟩ : ∃ j, k = j + 1 := ⟨k - 1, by omega⟩
    rw [Nat.add_sub_cancel, Nat.add_mul]; omega
  apply List.ext_getElem?
  intro i
  simp only [exN, List.getElem?_map, List.getElem?_append, List.length_append, List.length_map, List.length_range, List.length_replicate, List.getElem?_replicate]
  by_cases h1 : i < exLen m k
  · rw [List.getElem?_range (by omega), List.getElem?_range h1, if_pos (by omega), if_pos h1]
  · by_cases h2 : i < exLen m k + (m - 1)
    · rw [List.getElem?_range (by omega), if_pos h2, if_neg h1, if_pos (by omega)]
      simp only [Option.map_some]
      congr 1
      rw [if_neg]
      intro hc
      obtain ⟨j, rfl⟩ := Nat.dvd_of_mod_eq_zero hc
      have a1 : (k - 1) * m < j * m := by rw [Nat.mul_comm j]; omega
      have a2 : j * m < k * m := by rw [Nat.mul_comm j]; omega
      have b1 := Nat.lt_of_mul_lt_mul_right a1
      have b2 := Nat.lt_of_mul_lt_mul_right a2
      omega
    · by_cases h3 : i < exLen m (k + 1)
      · have hi : i = k * m := by omega
        subst hi
        rw [List.getElem?_range h3, if_neg h2]
        simp only [Option.map_some, Nat.mul_mod_left, if_true]
        rw [Nat.mul_div_cancel _ (by omega), h, show k * m - (exLen m k + (m - 1)) = 0 by omega]
        rfl
      · rw [List.getElem?_eq_none (by simpa using h3), if_neg h2]
        simp
        omega
end Go.Proofs.YtpmbgcfnehplaaaDoor
end
section
/- Plain lists: the convolution of two lists. -/
set_option linter.unusedVariables false
set_option linter.unusedSimpArgs false
namespace Go.Proofs.YtpmbgcfnehplaaaDoor
open Go.RowKit

/-- Element k of a list, 0 outside. -/
def el (l : List Int) (k : Nat) : Int := l[k]?.getD 0
/-- The sum over the first I elements of h of h[i] * g[n - i]. -/
def cS (h g : List Int) (n : Nat) : Nat → Int
  | 0 => 0
  | i + 1 => cS h g n i + if i ≤ n then el h i * el g (n - i) else 0
def joinLen (h g : List Int) : Nat := if h = [] ∨ g = [] then 0 else h.length + g.length - 1
/-- The state behind I rows and J elements of the next row. -/
def joinN (h g : List Int) (I J : Nat) : List Int := (List.range (joinLen h g)).map fun n => cS h g n I + if I ≤ n ∧ n - I < J then el h I * el g (n - I) else 0
def joinF (h g : List Int) : List Int := joinN h g h.length 0
def joinE (h g : List Int) : Int := if 49 < h.length ∨ 49 < g.length then 4 else if (h.all fun v => inB v (-16777216) 16777216) = true ∧ (g.all fun v => inB v (-16777216) 16777216) = true then 0 else 17
def joinV (h g : List Int) : List Int := if joinE h g = 0 then joinF h g else []
theorem joinN_length (h g : List Int) (I J : Nat) : (joinN h g I J).length = joinLen h g := by simp [joinN]
theorem joinN_zero (h g : List Int) : joinN h g 0 0 = List.replicate (joinLen h g) 0 := by
  apply List.ext_getElem?
  intro i
  simp only [joinN, List.getElem?_map, List.getElem?_replicate]
  rcases Nat.lt_or_ge i (joinLen h g) with h1 | h1
  · rw [List.getElem?_range h1]; simp [h1, cS]
  · rw [List.getElem?_eq_none (by simpa using h1)]; simp; omega
theorem joinN_get {h g : List Int} {I J n : Nat} (hn : n < joinLen h g) : (joinN h g I J)[n]? = some (cS h g n I + if I ≤ n ∧ n - I < J then el h I * el g (n - I) else 0) := by
  simp only [joinN, List.getElem?_map, List.getElem?_range hn]; rfl
/-- A whole row. -/
theorem joinN_row {h g : List Int} (I : Nat) : joinN h g I g.length = joinN h g (I + 1) 0 := by
  apply List.ext_getElem?
  intro n
  rcases Nat.lt_or_ge n (joinLen h g) with h1 | h1
  · rw [joinN_get h1, joinN_get h1]
    congr 1
    rw [if_neg (by omega : ¬ (I + 1 ≤ n ∧ n - (I + 1) < 0))]
    show _ = cS h g n I + _ + 0
    by_cases h2 : I ≤ n
    · rw [if_pos h2]
      by_cases h3 : n - I < g.length
      · rw [if_pos ⟨h2, h3⟩]; omega
      · have : el g (n - I) = 0 := by unfold el; rw [List.getElem?_eq_none (by omega)]; rfl
        rw [if_neg (by omega), this]; simp
    · rw [if_neg h2, if_neg (by omega)]; simp
  · rw [List.getElem?_eq_none (by rw [joinN_length]; exact h1), List.getElem?_eq_none (by rw [joinN_length]; exact h1)]
/-- One element more. -/
theorem joinN_succ {h g : List Int} {I J : Nat} {a b s : Int} (ha : h[I]? = some a) (hb : g[J]? = some b) (hs : (joinN h g I J)[I + J]? = some s) : joinN h g I (J + 1) = (joinN h g I J).set (I + J) (s + a * b) := by
  have hl : I + J < joinLen h g := by
    have := (List.getElem?_eq_some_iff.1 hs).1
    rwa [joinN_length] at this
  rw [joinN_get hl] at hs
  have e1 : el h I = a := by unfold el; rw [ha]; rfl
  have e2 : el g J = b := by unfold el; rw [hb]; rfl
  apply List.ext_getElem?
  intro n
  rw [List.getElem?_set, joinN_length]
  rcases Nat.lt_or_ge n (joinLen h g) with h1 | h1
  · rw [joinN_get h1, joinN_get h1]
    by_cases e : I + J = n
    · subst e
      rw [if_pos rfl, if_pos h1, if_pos ⟨by omega, by omega⟩]
      injection hs with hs
      rw [if_neg (by omega)] at hs
      rw [Nat.add_sub_cancel_left, e1, e2]
      congr 1
      omega
    · rw [if_neg e]
      congr 2
      by_cases h2 : I ≤ n ∧ n - I < J
      · rw [if_pos h2, if_pos (by omega)]
      · rw [if_neg h2, if_neg (by omega)]
  · rw [List.getElem?_eq_none (by rw [joinN_length]; exact h1), if_neg (by omega), List.getElem?_eq_none (by rw [joinN_length]; exact h1)]
theorem el_bound {l : List Int} {B : Int} (hB : 0 ≤ B) (h : ∀ x ∈ l, -B ≤ x ∧ x ≤ B) (k : Nat) : -B ≤ el l k ∧ el l k ≤ B := by
  unfold el
  cases hk : l[k]? with
  | none => simp; omega
  | some x => exact h x (List.mem_of_getElem? hk)
theorem cS_bound {h g : List Int} (h1 : ∀ x ∈ h, -16777216 ≤ x ∧ x ≤ 16777216) (h2 : ∀ x ∈ g, -16777216 ≤ x ∧ x ≤ 16777216) (n : Nat) : ∀ I : Nat, -(281474976710656 * (I : Int)) ≤ cS h g n I ∧ cS h g n I ≤ 281474976710656 * (I : Int) := by
  intro I
  induction I with
  | zero => simp [cS]
  | succ I ih =>
    have hb := mul_bound (x := el h I) (y := el g (n - I)) (B := 16777216) (C := 16777216) (el_bound (by decide) h1 I) (el_bound (by decide) h2 _)
    unfold cS
    generalize el h I * el g (n - I) = P at *
    split <;> omega
/-- What the state holds, and what one product adds, stays far from overflow. -/
theorem joinN_bound {h g : List Int} (h1 : ∀ x ∈ h, -16777216 ≤ x ∧ x ≤ 16777216) (h2 : ∀ x ∈ g, -16777216 ≤ x ∧ x ≤ 16777216) {I J n : Nat} {s : Int} (hI : I ≤ 1000) (hs : (joinN h g I J)[n]? = some s) : -300000000000000000 ≤ s ∧ s ≤ 300000000000000000 := by
  have hl : n < joinLen h g := by
    have := (List.getElem?_eq_some_iff.1 hs).1
    rwa [joinN_length] at this
  rw [joinN_get hl] at hs
  injection hs with hs
  have hc := cS_bound h1 h2 n I
  have hb := mul_bound (x := el h I) (y := el g (n - I)) (B := 16777216) (C := 16777216) (el_bound (by decide) h1 I) (el_bound (by decide) h2 _)
  generalize el h I * el g (n - I) = P at *
  rw [← hs]
  split <;> omega
end Go.Proofs.YtpmbgcfnehplaaaDoor
end
section
/- Plain law: filtering by phases is filtering. -/
set_option linter.unusedVariables false
set_option linter.unusedSimpArgs false
namespace Go.Proofs.YtpmbgcfnehplaaaDoor
open Go.RowKit

/-- A sum. -/
def sm (f : Nat → Int) : Nat → Int
  | 0 => 0
  | n + 1 => sm f n + f n
theorem sm_congr {f g : Nat → Int} {n : Nat} (h : ∀ i, i < n → f i = g i) : sm f n = sm g n := by
  induction n with
  | zero => rfl
  | succ n ih => unfold sm; rw [ih (fun i hi => h i (by omega)), h n (by omega)]
theorem sm_more {f : Nat → Int} {n k : Nat} (h : ∀ i, n ≤ i → f i = 0) : sm f (n + k) = sm f n := by
  induction k with
  | zero => rfl
  | succ k ih => show sm f (n + k) + f (n + k) = _; rw [ih, h _ (by omega)]; omega
theorem sm_to {f : Nat → Int} {n N : Nat} (hN : n ≤ N) (h : ∀ i, n ≤ i → f i = 0) : sm f N = sm f n := by
  obtain ⟨k, rfl⟩ := Nat.exists_eq_add_of_le hN
  exact sm_more h
theorem sm_zero {f : Nat → Int} {n : Nat} (h : ∀ i, i < n → f i = 0) : sm f n = 0 := by
  induction n with
  | zero => rfl
  | succ n ih => unfold sm; rw [ih (fun i hi => h i (by omega)), h n (by omega)]; rfl
theorem sm_add {f g : Nat → Int} {n : Nat} : sm (fun i => f i + g i) n = sm f n + sm g n := by
  induction n with
  | zero => rfl
  | succ n ih => simp only [sm]; rw [ih]; omega
theorem sm_split {f : Nat → Int} {n k : Nat} : sm f (n + k) = sm f n + sm (fun i => f (n + i)) k := by
  induction k with
  | zero => simp [sm]
  | succ k ih => show sm f (n + k) + f (n + k) = _; rw [ih]; simp only [sm]; omega
theorem cS_sm (h g : List Int) (n I : Nat) : cS h g n I = sm (fun i => if i ≤ n then el h i * el g (n - i) else 0) I := by
  induction I with
  | zero => rfl
  | succ I ih => simp only [cS, sm]; rw [ih]
/-- Sums over i < m and over the multiples t of m, all of which lie below Q * m: each index i + t once. -/
theorem sm_phases (T : Nat → Int) {m : Nat} (hm : 1 ≤ m) (Q : Nat) : sm (fun i => sm (fun t => if t % m = 0 then T (i + t) else 0) (Q * m)) m = sm T (Q * m) := by
  induction Q with
  | zero => simp only [Nat.zero_mul]; exact sm_zero (fun i _ => rfl)
  | succ Q ih =>
    have e : (Q + 1) * m = Q * m + m := by rw [Nat.add_mul]; omega
    rw [e, sm_split (f := T), ← ih, ← sm_add]
    apply sm_congr
    intro i _
    rw [sm_split]
    congr 1
    obtain ⟨j, rfl⟩ : ∃ j, m = j + 1 := ⟨m - 1, by omega⟩
    rw [Nat.add_comm j 1, sm_split]
    have h1 : sm (fun t => if (Q * (1 + j) + t) % (1 + j) = 0 then T (i + (Q * (1 + j) + t)) else 0) 1 = T (Q * (1 + j) + i) := by
      simp only [sm]
      rw [if_pos (by rw [Nat.add_zero]; exact Nat.mul_mod_left _ _)]
      rw [Nat.add_zero, Nat.add_comm i]; omega
    rw [h1, sm_zero, Int.add_zero]
    intro t ht
    rw [if_neg]
    rw [Nat.add_comm, Nat.add_mul_mod_self_right, Nat.mod_eq_of_lt (by omega)]
    omega
theorem joinF_el (h g : List Int) (n : Nat) : el (joinF h g) n = cS h g n h.length := by
  unfold joinF
  by_cases hn : n < joinLen h g
  · unfold el
    rw [joinN_get hn, if_neg (by omega)]; simp
  · have : el (joinN h g h.length 0) n = 0 := by unfold el; rw [List.getElem?_eq_none (by rw [joinN_length]; omega)]; rfl
    rw [this, cS_sm]
    symm
    apply sm_zero
    intro i hi
    by_cases h1 : i ≤ n
    · rw [if_pos h1]
      have hg : el g (n - i) = 0 := by
        unfold joinLen at hn
        unfold el
        split at hn
        · rename_i hc
          rcases hc with hc | hc
          · rw [hc] at hi; simp at hi
          · rw [hc]; rfl
        · rw [List.getElem?_eq_none (by omega)]; rfl
      rw [hg, Int.mul_zero]
    · rw [if_neg h1]
theorem wide_el {a : List Int} {m i : Nat} (hm : 1 ≤ m) (t : Nat) : el (expF (everyF a i m) m) t = if t % m = 0 then el a (i + t) else 0 := by
  have hl : (everyF a i m).length = cnt a.length i m := everyN_length _ _ _ _
  unfold el expF exN
  rw [List.getElem?_map]
  by_cases ht : t % m = 0
  · obtain ⟨k, rfl⟩ := Nat.dvd_of_mod_eq_zero ht
    rw [if_pos ht]
    by_cases hk : k < cnt a.length i m
    · have := exLen_lt (m := m) (k := k) (n := (everyF a i m).length) (by rw [hl]; exact hk)
      rw [Nat.mul_comm k m] at this
      rw [List.getElem?_range this]
      simp only [Option.map_some, Option.getD_some]
      rw [if_pos ht, Nat.mul_div_cancel_left _ (by omega), everyF_get hm, Nat.mul_comm m k]
    · have h2 : ¬ m * k < exLen m (everyF a i m).length := by
        rw [hl]
        unfold exLen
        split
        · omega
        · have : cnt a.length i m * m ≤ k * m := Nat.mul_le_mul_right _ (by omega)
          have e : (cnt a.length i m - 1) * m + m = cnt a.length i m * m := by
            obtain ⟨q, hq⟩ : ∃ q, cnt a.length i m = q + 1 := ⟨cnt a.length i m - 1, by omega⟩
            rw [hq, Nat.add_sub_cancel, Nat.add_mul]; omega
          rw [Nat.mul_comm m k]
          omega
      have h3 : ¬ i + k * m < a.length := fun hc => hk ((cnt_iff hm).1 hc)
      rw [List.getElem?_eq_none (by simpa using h2), List.getElem?_eq_none (by rw [Nat.mul_comm m k]; omega)]; rfl
  · rw [if_neg ht]
    rcases Nat.lt_or_ge t (exLen m (everyF a i m).length) with h | h
    · rw [List.getElem?_range h]; simp [ht]
    · rw [List.getElem?_eq_none (by simpa using h)]; rfl
/-- The law. -/
theorem phases_law {a b : List Int} {m : Nat} (hm : 1 ≤ m) (n : Nat) : sm (fun i => if i ≤ n then el (joinF (expF (everyF a i m) m) b) (n - i) else 0) m = el (joinF a b) n := by
  rw [joinF_el, cS_sm]
  have hT : ∀ s, a.length ≤ s → (fun s => if s ≤ n then el a s * el b (n - s) else 0) s = 0 := by
    intro s hs
    show (if s ≤ n then _ else _) = _
    have : el a s = 0 := by unfold el; rw [List.getElem?_eq_none hs]; rfl
    rw [this]; simp
  have hQ : a.length ≤ a.length * m := Nat.le_mul_of_pos_right _ (by omega)
  rw [← sm_to hQ hT, ← sm_phases _ hm a.length]
  apply sm_congr
  intro i hi
  by_cases h1 : i ≤ n
  · rw [if_pos h1, joinF_el, cS_sm]
    have hw : (expF (everyF a i m) m).length ≤ a.length * m + m := by
      show (exN _ _ _).length ≤ _
      rw [exN_length, show (everyF a i m).length = cnt a.length i m from everyN_length _ _ _ _]
      have := cnt_le a.length i m hm
      unfold exLen
      split
      · omega
      · have : (cnt a.length i m - 1) * m ≤ a.length * m := Nat.mul_le_mul_right _ (by omega)
        omega
    have hz : ∀ t, (expF (everyF a i m) m).length ≤ t → (fun t => if t ≤ n - i then el (expF (everyF a i m) m) t * el b (n - i - t) else 0) t = 0 := by
      intro t ht
      show (if t ≤ n - i then _ else _) = _
      have : el (expF (everyF a i m) m) t = 0 := by unfold el; rw [List.getElem?_eq_none ht]; rfl
      rw [this]; simp
    rw [← sm_to hw hz, ← sm_to (n := a.length * m) (N := a.length * m + m) (f := fun t => if t % m = 0 then (fun s => if s ≤ n then el a s * el b (n - s) else 0) (i + t) else 0) (by omega) (fun t ht => by
      by_cases hc : t % m = 0
      · rw [if_pos hc]; exact hT _ (by omega)
      · rw [if_neg hc])]
    apply sm_congr
    intro t _
    rw [wide_el hm]
    by_cases hc : t % m = 0
    · rw [if_pos hc, if_pos hc]
      show _ = if i + t ≤ n then _ else _
      by_cases h2 : t ≤ n - i
      · rw [if_pos h2, if_pos (by omega), Nat.sub_sub]
      · rw [if_neg h2, if_neg (by omega)]
    · rw [if_neg hc, if_neg hc]; simp
  · rw [if_neg h1]
    symm
    apply sm_zero
    intro t _
    by_cases hc : t % m = 0
    · rw [if_pos hc]
      show (if i + t ≤ n then _ else _) = _
      rw [if_neg (by omega)]
    · rw [if_neg hc]
end Go.Proofs.YtpmbgcfnehplaaaDoor
end
section
/- Plain laws: filters with words, behind and in front of changes of the rate. -/
set_option linter.unusedVariables false
set_option linter.unusedSimpArgs false
namespace Go.Proofs.YtpmbgcfnehplaaaDoor
open Go.RowKit

/-! ### Words -/
theorem wrap_in {b v : Int} (h1 : 1 ≤ b) (h2 : b ≤ 62) : -2 ^ (b - 1).toNat ≤ wrapF b v ∧ wrapF b v ≤ 2 ^ (b - 1).toNat - 1 := by
  unfold wrapF
  rw [if_pos (inB_iff.2 ⟨h1, h2⟩)]
  have e : b.toNat = (b - 1).toNat + 1 := by omega
  have hp := pow_pos' (b - 1).toNat
  have e2 : (2 : Nat) ^ b.toNat = 2 * 2 ^ (b - 1).toNat := by rw [e, Nat.pow_succ, Nat.mul_comm]
  have c : ((2 ^ (b - 1).toNat : Nat) : Int) = (2 : Int) ^ (b - 1).toNat := by push_cast; rfl
  have h3 := @Int.le_bmod v (2 ^ b.toNat) (by rw [e2]; have := Nat.two_pow_pos (b - 1).toNat; omega)
  have h4 := @Int.bmod_le v (2 ^ b.toNat) (by rw [e2]; have := Nat.two_pow_pos (b - 1).toNat; omega)
  rw [e2] at h3 h4
  rw [e2]
  rw [← c] at hp ⊢
  generalize (2 ^ (b - 1).toNat : Nat) = P at *
  generalize v.bmod (2 * P) = q at *
  omega
theorem reduce_in (b f r o v : Int) : lowW b f r o ≤ reduceW b f r o v ∧ reduceW b f r o v ≤ highW b f r o := by
  unfold reduceW
  by_cases h : okW b f r o = true
  · rw [if_pos h]
    have hlh := low_high b f r o
    obtain ⟨h1, h2, _⟩ := okW_iff.1 h
    by_cases ho : o = 2
    · rw [if_pos ho]
      have := wrap_in (b := b) (v := v) (by omega) (by omega)
      unfold lowW highW
      rw [if_pos h, if_pos h]
      exact this
    · rw [if_neg ho]
      unfold satW
      omega
  · rw [if_neg h]
    unfold lowW highW
    rw [if_neg h, if_neg h]; omega
theorem reduce_i64 (b f r o v : Int) : I64 (reduceW b f r o v) := by
  have := reduce_in b f r o v
  have := low_high b f r o
  exact ⟨by omega, by omega⟩
theorem shift_0 (n r : Int) : shiftF 0 n r = 0 := by
  unfold shiftF
  split
  · split
    · simp
    · split <;> simp
  · rfl
theorem reduce_0 (b f r o : Int) : reduceW b f r o 0 = 0 := by
  unfold reduceW
  by_cases h : okW b f r o = true
  · rw [if_pos h]
    have hlh := low_high b f r o
    split
    · unfold wrapF; split <;> simp
    · unfold satW; omega
  · rw [if_neg h]
theorem fits_iff {b f r o v : Int} : fitsW b f r o v = true ↔ okW b f r o = true ∧ lowW b f r o ≤ v ∧ v ≤ highW b f r o := by
  unfold fitsW; rw [Bool.and_eq_true, inB_iff]
theorem fits_small {b f r o v : Int} (h : fitsW b f r o v = true) : -8388608 ≤ v ∧ v ≤ 8388607 := by
  have := (fits_iff.1 h).2
  have := low_high b f r o
  omega
theorem fits_reduce {b f r o : Int} (h : okW b f r o = true) (v : Int) : fitsW b f r o (reduceW b f r o v) = true := fits_iff.2 ⟨h, reduce_in b f r o v⟩
theorem fits_0 {b f r o : Int} (h : okW b f r o = true) : fitsW b f r o 0 = true := by
  have := low_high b f r o
  exact fits_iff.2 ⟨h, by omega, by omega⟩

/-! ### Elements -/
theorem el_of {l : List Int} {k : Nat} {y : Int} (h : l[k]? = some y) : el l k = y := by unfold el; rw [h]; rfl
theorem el_none {l : List Int} {k : Nat} (h : l.length ≤ k) : el l k = 0 := by unfold el; rw [List.getElem?_eq_none h]; rfl
theorem el_up {x : List Int} {m : Nat} (hm : 1 ≤ m) (i : Nat) : el (upF x m) i = if i % m = 0 then el x (i / m) else 0 := by
  unfold el
  rw [upF_get]
  by_cases h : i < m * x.length
  · rw [if_pos h]; rfl
  · rw [if_neg h]
    have : x.length ≤ i / m := (Nat.le_div_iff_mul_le (by omega)).2 (by rw [Nat.mul_comm]; omega)
    rw [List.getElem?_eq_none this]; simp
theorem exLen_le (m n : Nat) (hm : 1 ≤ m) : exLen m n ≤ n * m := by
  unfold exLen
  split
  · omega
  · obtain ⟨q, rfl⟩ : ∃ q, n = q + 1 := ⟨n - 1, by omega⟩
    rw [Nat.add_sub_cancel, Nat.add_mul]; omega
theorem el_exp {h : List Int} {m : Nat} (hm : 1 ≤ m) (t : Nat) : el (expF h m) t = if t % m = 0 then el h (t / m) else 0 := by
  by_cases ht : t < exLen m h.length
  · unfold el expF exN
    rw [List.getElem?_map, List.getElem?_range ht]; rfl
  · rw [el_none (by rw [show (expF h m).length = exLen m h.length from exN_length _ _ _]; omega)]
    by_cases h0 : t % m = 0
    · rw [if_pos h0]
      obtain ⟨k, rfl⟩ := Nat.dvd_of_mod_eq_zero h0
      rw [Nat.mul_div_cancel_left _ (by omega), el_none]
      rcases Nat.lt_or_ge k h.length with hk | hk
      · have := exLen_lt (m := m) hk
        rw [Nat.mul_comm] at this
        exact absurd this ht
      · exact hk
    · rw [if_neg h0]
theorem el_every {x : List Int} {m : Nat} (hm : 1 ≤ m) (i : Nat) : el (everyF x 0 m) i = el x (i * m) := by
  unfold el; rw [everyF_get hm, Nat.zero_add]

/-! ### Sums -/
theorem cS_stop {h g : List Int} {n K J : Nat} (hK : n < K) (hJ : K ≤ J) : cS h g n J = cS h g n K := by
  rw [cS_sm, cS_sm]
  exact sm_to hJ (fun i hi => by rw [if_neg (by omega)])
theorem cS_nil {h g : List Int} {n K J : Nat} (hK : h.length ≤ K) (hJ : K ≤ J) : cS h g n J = cS h g n K := by
  rw [cS_sm, cS_sm]
  exact sm_to hJ (fun i hi => by rw [el_none (by omega)]; simp)
theorem sm_mult (T : Nat → Int) {m : Nat} (hm : 1 ≤ m) (Q : Nat) : sm (fun t => if t % m = 0 then T (t / m) else 0) (Q * m) = sm T Q := by
  induction Q with
  | zero => rw [Nat.zero_mul]; rfl
  | succ Q ih =>
    have e : (Q + 1) * m = Q * m + m := by rw [Nat.add_mul]; omega
    rw [e, sm_split, ih]
    show _ = sm T Q + T Q
    congr 1
    obtain ⟨j, rfl⟩ : ∃ j, m = j + 1 := ⟨m - 1, by omega⟩
    rw [Nat.add_comm j 1, sm_split]
    have h1 : sm (fun t => if (Q * (1 + j) + t) % (1 + j) = 0 then T ((Q * (1 + j) + t) / (1 + j)) else 0) 1 = T Q := by
      simp only [sm]
      rw [Nat.add_zero, if_pos (Nat.mul_mod_left _ _), Nat.mul_div_cancel _ (by omega)]; omega
    rw [h1, sm_zero, Int.add_zero]
    intro t ht
    rw [if_neg]
    rw [Nat.add_comm, Nat.add_mul_mod_self_right, Nat.mod_eq_of_lt (by omega)]
    omega
/-- The expanded filter at a multiple of m. -/
theorem noble_at (h x : List Int) {m : Nat} (hm : 1 ≤ m) (n : Nat) : cS (expF h m) x (n * m) (expF h m).length = cS h (everyF x 0 m) n h.length := by
  have hl : (expF h m).length = exLen m h.length := exN_length _ _ _
  rw [← cS_nil (h := expF h m) (K := (expF h m).length) (J := h.length * m) (Nat.le_refl _) (by rw [hl]; exact exLen_le _ _ hm), cS_sm, cS_sm, ← sm_mult (fun i => if i ≤ n then el h i * el (everyF x 0 m) (n - i) else 0) hm]
  apply sm_congr
  intro t _
  rw [el_exp hm]
  by_cases h0 : t % m = 0
  · rw [if_pos h0]
    obtain ⟨k, rfl⟩ := Nat.dvd_of_mod_eq_zero h0
    rw [Nat.mul_div_cancel_left _ (by omega), if_pos h0, el_every hm]
    by_cases hk : k ≤ n
    · have e : m * k ≤ n * m := by rw [Nat.mul_comm n m]; exact Nat.mul_le_mul_left _ hk
      rw [if_pos hk, if_pos e, Nat.sub_mul, Nat.mul_comm m k]
    · have e : ¬ m * k ≤ n * m := by
        intro hc
        rw [Nat.mul_comm n m] at hc
        exact hk (Nat.le_of_mul_le_mul_left hc (by omega))
      rw [if_neg hk, if_neg e]
  · rw [if_neg h0, if_neg h0]; simp
/-- The expanded filter of a raised list between the multiples of m. -/
theorem noble_between (h x : List Int) {m : Nat} (hm : 1 ≤ m) {i : Nat} (hi : i % m ≠ 0) : cS (expF h m) (upF x m) i (expF h m).length = 0 := by
  rw [cS_sm]
  apply sm_zero
  intro t _
  by_cases ht : t ≤ i
  · rw [if_pos ht, el_exp hm, el_up hm]
    by_cases h0 : t % m = 0
    · have : (i - t) % m ≠ 0 := by
        intro hc
        apply hi
        have : i = t + (i - t) := by omega
        rw [this, Nat.add_mod, h0, hc]; simp
      rw [if_neg this, Int.mul_zero]
    · rw [if_neg h0, Int.zero_mul]
  · rw [if_neg ht]

/-! ### Filters -/
/-- One output of a filter. -/
def cvF (b f r o cf : Int) (h u : List Int) (n : Nat) : Int := reduceW b f r o (shiftF (cS h u n h.length) cf r)
/-- All outputs of a filter. -/
def filtF (b f r o cf : Int) (h u : List Int) : List Int := (List.range u.length).map (cvF b f r o cf h u)
/-- Raised, filtered, lowered. -/
def convF (b f r o cf : Int) (h : List Int) (up down : Nat) (x : List Int) : List Int := everyF (filtF b f r o cf h (upF x up)) 0 down
theorem filtF_length (b f r o cf : Int) (h u : List Int) : (filtF b f r o cf h u).length = u.length := by simp [filtF]
theorem filtF_get (b f r o cf : Int) (h u : List Int) (n : Nat) : (filtF b f r o cf h u)[n]? = if n < u.length then some (cvF b f r o cf h u n) else none := by
  unfold filtF
  rw [List.getElem?_map]
  by_cases hn : n < u.length
  · rw [List.getElem?_range hn, if_pos hn]; rfl
  · rw [List.getElem?_eq_none (by simpa using hn), if_neg hn]; rfl
theorem up_1 (x : List Int) : upF x 1 = x := by
  apply List.ext_getElem?
  intro i
  rw [upF_get]
  by_cases h : i < x.length
  · rw [if_pos (by omega), if_pos (Nat.mod_one i), Nat.div_one]
    rw [List.getElem?_eq_getElem h]; rfl
  · rw [if_neg (by omega), List.getElem?_eq_none (by omega)]
theorem every_1 (x : List Int) : everyF x 0 1 = x := by
  apply List.ext_getElem?
  intro i
  rw [everyF_get (by omega), Nat.zero_add, Nat.mul_one]
theorem every_up (x : List Int) {m : Nat} (hm : 1 ≤ m) : everyF (upF x m) 0 m = x := by
  apply List.ext_getElem?
  intro i
  rw [everyF_get hm, Nat.zero_add, upF_get, Nat.mul_mod_left, Nat.mul_div_cancel _ (by omega), if_pos rfl]
  by_cases h : i < x.length
  · rw [if_pos (by rw [Nat.mul_comm]; exact Nat.mul_lt_mul_of_pos_left h (by omega)), List.getElem?_eq_getElem h]; rfl
  · rw [if_neg (by rw [Nat.mul_comm i]; exact Nat.not_lt.2 (Nat.mul_le_mul_left _ (by omega))), List.getElem?_eq_none (by omega)]
theorem conv_1 (b f r o cf : Int) (h x : List Int) : convF b f r o cf h 1 1 x = filtF b f r o cf h x := by
  unfold convF; rw [up_1, every_1]
theorem conv_is (b f r o cf : Int) (h : List Int) (up down : Nat) (x : List Int) : convF b f r o cf h up down x = everyF (convF b f r o cf h 1 1 (upF x up)) 0 down := by
  rw [conv_1]; rfl
theorem noble_down (b f r o cf : Int) (h x : List Int) {m : Nat} (hm : 1 ≤ m) : everyF (convF b f r o cf (expF h m) 1 1 x) 0 m = convF b f r o cf h 1 1 (everyF x 0 m) := by
  rw [conv_1, conv_1]
  apply List.ext_getElem?
  intro n
  rw [everyF_get hm, Nat.zero_add, filtF_get, filtF_get]
  have e : (everyF x 0 m).length = cnt x.length 0 m := everyN_length _ _ _ _
  have := cnt_iff (n := x.length) (fr := 0) (k := n) hm
  rw [Nat.zero_add] at this
  by_cases hn : n * m < x.length
  · rw [if_pos hn, if_pos (by rw [e]; exact this.1 hn)]
    unfold cvF
    rw [noble_at h x hm]
  · rw [if_neg hn, if_neg (by rw [e]; exact fun hc => hn (this.2 hc))]
theorem noble_up (b f r o cf : Int) (h x : List Int) {m : Nat} (hm : 1 ≤ m) : upF (convF b f r o cf h 1 1 x) m = convF b f r o cf (expF h m) 1 1 (upF x m) := by
  rw [conv_1, conv_1]
  apply List.ext_getElem?
  intro i
  rw [upF_get, filtF_get, filtF_get, filtF_length]
  have e : (upF x m).length = m * x.length := upN_length _ _ _
  rw [e]
  by_cases hi : i < m * x.length
  · rw [if_pos hi, if_pos hi]
    by_cases h0 : i % m = 0
    · rw [if_pos h0]
      obtain ⟨k, rfl⟩ := Nat.dvd_of_mod_eq_zero h0
      have hk : k < x.length := Nat.lt_of_mul_lt_mul_left hi
      rw [Nat.mul_div_cancel_left _ (by omega), if_pos hk]
      unfold cvF
      rw [Nat.mul_comm m k, noble_at h (upF x m) hm, every_up x hm]; rfl
    · rw [if_neg h0]
      unfold cvF
      rw [noble_between h x hm h0, shift_0, reduce_0]
  · rw [if_neg hi, if_neg hi]
theorem filt_i64 (b f r o cf : Int) (h u : List Int) (n : Nat) : I64 (cvF b f r o cf h u n) := reduce_i64 _ _ _ _ _

/-! ### Errors -/
def fitsB (b f r o : Int) (l : List Int) : Bool := l.all (fitsW b f r o)
def convE (b f r o b' f' r' o' : Int) (h : List Int) (up down : Int) (x : List Int) : Int :=
  if (okW b f r o && okW b' f' r' o') = true then
    (if (inB up 1 12 && inB down 1 12) = true then
      (if 49 < h.length ∨ 4096 < x.length ∨ 4096 < up * x.length then 4
       else if (fitsB b' f' r' o' h && fitsB b f r o x) = true then 0 else 17)
     else 20)
  else 2
def convV (b f r o b' f' r' o' : Int) (h : List Int) (up down : Int) (x : List Int) : List Int :=
  if convE b f r o b' f' r' o' h up down x = 0 then convF b f r o f' h up.toNat down.toNat x else []
theorem conv_ok {b f r o b' f' r' o' : Int} {h x : List Int} {up down : Nat} (h1 : okW b f r o = true) (h2 : okW b' f' r' o' = true) (u1 : 1 ≤ up) (u2 : up ≤ 12) (d1 : 1 ≤ down) (d2 : down ≤ 12)
    (hl : h.length ≤ 49) (hx : x.length ≤ 4096) (hu : up * x.length ≤ 4096) (f1 : fitsB b' f' r' o' h = true) (f2 : fitsB b f r o x = true) :
    convE b f r o b' f' r' o' h up down x = 0 ∧ convV b f r o b' f' r' o' h up down x = convF b f r o f' h up down x := by
  have e : convE b f r o b' f' r' o' h up down x = 0 := by
    unfold convE
    rw [if_pos (by rw [h1, h2]; rfl), if_pos (by rw [Bool.and_eq_true, inB_iff, inB_iff]; omega), if_neg, if_pos (by rw [f1, f2]; rfl)]
    rw [← Int.natCast_mul]
    omega
  refine ⟨e, ?_⟩
  unfold convV
  rw [if_pos e]; simp
theorem conv_bad {b f r o b' f' r' o' : Int} {h x : List Int} {up down E : Int} (hE : convE b f r o b' f' r' o' h up down x = E) (h0 : E ≠ 0) : convV b f r o b' f' r' o' h up down x = [] := by
  unfold convV; rw [if_neg (by rw [hE]; exact h0)]
end Go.Proofs.YtpmbgcfnehplaaaDoor
end
section
/- Plain laws: lifting steps, forth and back, and around. -/
set_option linter.unusedVariables false
set_option linter.unusedSimpArgs false
namespace Go.Proofs.YtpmbgcfnehplaaaDoor
open Go.RowKit

/-! ### Steps -/
/-- A step: whether it changes the second phase, where it starts, its coefficients, its shift. -/
abbrev Lft := Bool × Int × List Int × Int
/-- The sum over the first coefficients. -/
def chS (c : List Int) (st : Int) (o : List Int) (n : Nat) : Nat → Int
  | 0 => 0
  | k + 1 => chS c st o n k + el c k * el o (((n : Int) + st + k) % (o.length : Int)).toNat
def chF (s : Lft) (o : List Int) (n : Nat) : Int := shiftF (chS s.2.2.1 s.2.1 o n s.2.2.1.length) s.2.2.2 1
/-- A phase of which the first K elements are changed. -/
def stN (s : Lft) (g : Int) (to fr : List Int) (K : Nat) : List Int := (List.range to.length).map fun n => if n < K then wrapF 32 (el to n + g * chF s fr n) else el to n
def stF (s : Lft) (g : Int) (to fr : List Int) : List Int := stN s g to fr to.length
def lift1 (g : Int) (p : List Int × List Int) (s : Lft) : List Int × List Int := if s.1 = true then (p.1, stF s g p.2 p.1) else (stF s g p.1 p.2, p.2)
def anaF (ls : List Lft) (p : List Int × List Int) : List Int × List Int := ls.foldl (lift1 1) p
def synF (ls : List Lft) (p : List Int × List Int) : List Int × List Int := ls.reverse.foldl (lift1 (-1)) p
/-- Words of 32 bits. -/
def W32 (l : List Int) : Prop := ∀ x ∈ l, -2147483648 ≤ x ∧ x < 2147483648

theorem stN_length (s : Lft) (g : Int) (to fr : List Int) (K : Nat) : (stN s g to fr K).length = to.length := by simp [stN]
theorem stF_length (s : Lft) (g : Int) (to fr : List Int) : (stF s g to fr).length = to.length := stN_length _ _ _ _ _
theorem stN_get {s : Lft} {g : Int} {to fr : List Int} {K n : Nat} (h : n < to.length) : (stN s g to fr K)[n]? = some (if n < K then wrapF 32 (el to n + g * chF s fr n) else el to n) := by
  simp only [stN, List.getElem?_map, List.getElem?_range h]; rfl
theorem get_el {l : List Int} {n : Nat} (h : n < l.length) : l[n]? = some (el l n) := by unfold el; rw [List.getElem?_eq_getElem h]; rfl
theorem list_ext {a b : List Int} (hl : a.length = b.length) (h : ∀ n, n < a.length → el a n = el b n) : a = b := by
  apply List.ext_getElem?
  intro n
  rcases Nat.lt_or_ge n a.length with hn | hn
  · rw [get_el hn, get_el (by omega), h n hn]
  · rw [List.getElem?_eq_none hn, List.getElem?_eq_none (by omega)]
theorem el_stF {s : Lft} {g : Int} {to fr : List Int} {n : Nat} (h : n < to.length) : el (stF s g to fr) n = wrapF 32 (el to n + g * chF s fr n) := by
  have : (stF s g to fr)[n]? = _ := stN_get (K := to.length) h
  rw [if_pos h] at this
  exact el_of this
theorem stN_zero (s : Lft) (g : Int) (to fr : List Int) : stN s g to fr 0 = to := by
  refine list_ext (stN_length _ _ _ _ _) fun n hn => ?_
  rw [stN_length] at hn
  rw [el_of (stN_get hn), if_neg (by omega)]
theorem stN_at {s : Lft} {g : Int} {to fr : List Int} {K : Nat} (h : K < to.length) : (stN s g to fr K)[K]? = some (el to K) := by rw [stN_get h, if_neg (by omega)]
theorem stN_succ {s : Lft} {g : Int} {to fr : List Int} {K : Nat} (h : K < to.length) : stN s g to fr (K + 1) = (stN s g to fr K).set K (wrapF 32 (el to K + g * chF s fr K)) := by
  apply List.ext_getElem?
  intro n
  rw [List.getElem?_set, stN_length]
  rcases Nat.lt_or_ge n to.length with hn | hn
  · rw [stN_get hn, stN_get hn]
    by_cases e : K = n
    · subst e; rw [if_pos rfl, if_pos h, if_pos (by omega)]
    · rw [if_neg e]
      congr 1
      by_cases h1 : n < K
      · rw [if_pos h1, if_pos (by omega)]
      · rw [if_neg h1, if_neg (by omega)]
  · rw [if_neg (by omega), List.getElem?_eq_none (by rw [stN_length]; exact hn), List.getElem?_eq_none (by rw [stN_length]; exact hn)]
theorem lift1_length (g : Int) (p : List Int × List Int) (s : Lft) : (lift1 g p s).1.length = p.1.length ∧ (lift1 g p s).2.length = p.2.length := by
  unfold lift1
  split
  · exact ⟨rfl, stF_length _ _ _ _⟩
  · exact ⟨stF_length _ _ _ _, rfl⟩
theorem fold_length (g : Int) (ls : List Lft) : ∀ p : List Int × List Int, (ls.foldl (lift1 g) p).1.length = p.1.length ∧ (ls.foldl (lift1 g) p).2.length = p.2.length := by
  induction ls with
  | nil => intro p; exact ⟨rfl, rfl⟩
  | cons s ls ih =>
    intro p
    have h1 := ih (lift1 g p s)
    have h2 := lift1_length g p s
    exact ⟨h1.1.trans h2.1, h1.2.trans h2.2⟩
theorem w32_el {l : List Int} (h : W32 l) (n : Nat) : -2147483648 ≤ el l n ∧ el l n < 2147483648 := by
  rcases Nat.lt_or_ge n l.length with hn | hn
  · exact h _ (List.mem_of_getElem? (get_el hn))
  · rw [el_none hn]; omega
theorem w32_wrap (v : Int) : -2147483648 ≤ wrapF 32 v ∧ wrapF 32 v < 2147483648 := by
  have h := wrap_in (b := 32) (v := v) (by decide) (by decide)
  have e : (2 : Int) ^ ((32 : Int) - 1).toNat = 2147483648 := by decide
  rw [e] at h
  omega
theorem w32_st (s : Lft) (g : Int) (to fr : List Int) : W32 (stF s g to fr) := by
  intro x hx
  obtain ⟨n, hn⟩ := List.getElem?_of_mem hx
  have hl : n < to.length := by
    have := (List.getElem?_eq_some_iff.1 hn).1
    rwa [stF_length] at this
  rw [← el_of hn, el_stF hl]
  exact w32_wrap _
theorem w32_lift {g : Int} {p : List Int × List Int} {s : Lft} (h : W32 p.1 ∧ W32 p.2) : W32 (lift1 g p s).1 ∧ W32 (lift1 g p s).2 := by
  unfold lift1
  split
  · exact ⟨h.1, w32_st _ _ _ _⟩
  · exact ⟨w32_st _ _ _ _, h.2⟩
theorem w32_fold (g : Int) (ls : List Lft) : ∀ p : List Int × List Int, W32 p.1 ∧ W32 p.2 → W32 (ls.foldl (lift1 g) p).1 ∧ W32 (ls.foldl (lift1 g) p).2 := by
  induction ls with
  | nil => intro p h; exact h
  | cons s ls ih => intro p h; exact ih _ (w32_lift h)
theorem wrap32_in {v : Int} (h : -2147483648 ≤ v ∧ v < 2147483648) : wrapF 32 v = v := by
  unfold wrapF
  rw [if_pos (by decide)]
  exact Int.bmod_eq_of_le (by simp; omega) (by simp; omega)
theorem wrap32_add (s d : Int) : wrapF 32 (wrapF 32 s + d) = wrapF 32 (s + d) := by
  unfold wrapF
  rw [if_pos (by decide), if_pos (by decide), if_pos (by decide)]
  exact Int.bmod_add_bmod

/-! ### Forth and back -/
theorem st_undo {s : Lft} {g : Int} {to fr : List Int} (h : W32 to) : stF s (-g) (stF s g to fr) fr = to := by
  refine list_ext (by rw [stF_length, stF_length]) fun n hn => ?_
  rw [stF_length, stF_length] at hn
  rw [el_stF (by rw [stF_length]; exact hn), el_stF hn, wrap32_add, Int.neg_mul, show el to n + g * chF s fr n + -(g * chF s fr n) = el to n by omega]
  exact wrap32_in (w32_el h n)
theorem lift_undo {s : Lft} {g : Int} {p : List Int × List Int} (h : W32 p.1 ∧ W32 p.2) : lift1 (-g) (lift1 g p s) s = p := by
  unfold lift1
  by_cases hs : s.1 = true
  · simp only [if_pos hs]
    rw [st_undo h.2]
  · simp only [if_neg hs]
    rw [st_undo h.1]
theorem syn_ana (ls : List Lft) : ∀ p : List Int × List Int, W32 p.1 ∧ W32 p.2 → synF ls (anaF ls p) = p := by
  induction ls with
  | nil => intro p _; rfl
  | cons s ls ih =>
    intro p h
    have := ih (lift1 1 p s) (w32_lift h)
    unfold synF anaF at this ⊢
    have e : (s :: ls).foldl (lift1 1) p = ls.foldl (lift1 1) (lift1 1 p s) := rfl
    rw [e, List.reverse_cons, List.foldl_append, this]
    exact lift_undo h
theorem ana_syn (ls : List Lft) : ∀ p : List Int × List Int, W32 p.1 ∧ W32 p.2 → anaF ls (synF ls p) = p := by
  induction ls with
  | nil => intro p _; rfl
  | cons s ls ih =>
    intro p h
    have h2 : W32 (synF ls p).1 ∧ W32 (synF ls p).2 := w32_fold (-1) ls.reverse p h
    have e : lift1 1 (lift1 (-1) (synF ls p) s) s = synF ls p := lift_undo (g := -1) h2
    have h3 := ih p h
    unfold anaF synF at h3 e ⊢
    have e2 : (ls.reverse ++ [s]).foldl (lift1 (-1)) p = lift1 (-1) (ls.reverse.foldl (lift1 (-1)) p) s := by rw [List.foldl_append]; rfl
    rw [List.reverse_cons, e2, List.foldl_cons, e, h3]

/-! ### Two phases -/
def evF (x : List Int) : List Int := everyF x 0 2
def odF (x : List Int) : List Int := everyF x 1 2
def weave (a b : List Int) : List Int := (List.range (2 * a.length)).map fun i => if i % 2 = 0 then el a (i / 2) else el b (i / 2)
theorem weave_length (a b : List Int) : (weave a b).length = 2 * a.length := by simp [weave]
theorem weave_el {a b : List Int} {i : Nat} (h : i < 2 * a.length) : el (weave a b) i = if i % 2 = 0 then el a (i / 2) else el b (i / 2) := by
  unfold el weave
  rw [List.getElem?_map, List.getElem?_range h]; rfl
theorem el_ev (x : List Int) (i : Nat) : el (evF x) i = el x (2 * i) := by
  unfold evF el; rw [everyF_get (by decide), Nat.zero_add, Nat.mul_comm]
theorem el_od (x : List Int) (i : Nat) : el (odF x) i = el x (2 * i + 1) := by
  unfold odF el; rw [everyF_get (by decide), Nat.mul_comm, Nat.add_comm]
theorem ev_length {x : List Int} {h : Nat} (hx : x.length = 2 * h) : (evF x).length = h := by
  rw [show (evF x).length = cnt x.length 0 2 from everyN_length _ _ _ _]; unfold cnt; omega
theorem od_length {x : List Int} {h : Nat} (hx : x.length = 2 * h) : (odF x).length = h := by
  rw [show (odF x).length = cnt x.length 1 2 from everyN_length _ _ _ _]; unfold cnt; omega
theorem weave_back {x : List Int} {h : Nat} (hx : x.length = 2 * h) : weave (evF x) (odF x) = x := by
  refine list_ext (by rw [weave_length, ev_length hx, hx]) fun i hi => ?_
  rw [weave_length] at hi
  rw [weave_el hi, el_ev, el_od]
  split
  · congr 1; omega
  · congr 1; omega
theorem ev_weave {a b : List Int} : evF (weave a b) = a := by
  refine list_ext (ev_length (weave_length a b)) fun i hi => ?_
  rw [ev_length (weave_length a b)] at hi
  rw [el_ev, weave_el (by omega), if_pos (by omega)]
  congr 1; omega
theorem od_weave {a b : List Int} (h : a.length = b.length) : odF (weave a b) = b := by
  refine list_ext ((od_length (weave_length a b)).trans h) fun i hi => ?_
  rw [od_length (weave_length a b)] at hi
  rw [el_od, weave_el (by omega), if_neg (by omega)]
  congr 1; omega
theorem w32_ev {x : List Int} (h : W32 x) : W32 (evF x) := by
  intro y hy
  obtain ⟨n, hn⟩ := List.getElem?_of_mem hy
  rw [← el_of hn, el_ev]; exact w32_el h _
theorem w32_od {x : List Int} (h : W32 x) : W32 (odF x) := by
  intro y hy
  obtain ⟨n, hn⟩ := List.getElem?_of_mem hy
  rw [← el_of hn, el_od]; exact w32_el h _
theorem w32_weave {a b : List Int} (ha : W32 a) (hb : W32 b) : W32 (weave a b) := by
  intro y hy
  obtain ⟨n, hn⟩ := List.getElem?_of_mem hy
  have hl := (List.getElem?_eq_some_iff.1 hn).1
  rw [weave_length] at hl
  rw [← el_of hn, weave_el hl]
  split
  · exact w32_el ha _
  · exact w32_el hb _

/-- What Analyse and Synthesise compute. -/
def analyseF (ls : List Lft) (x : List Int) : List Int × List Int := anaF ls (evF x, odF x)
def synthF (ls : List Lft) (a b : List Int) : List Int := weave (synF ls (a, b)).1 (synF ls (a, b)).2
theorem synth_analyse {ls : List Lft} {x : List Int} {h : Nat} (hx : x.length = 2 * h) (hw : W32 x) : synthF ls (analyseF ls x).1 (analyseF ls x).2 = x := by
  unfold synthF analyseF
  have := syn_ana ls (evF x, odF x) ⟨w32_ev hw, w32_od hw⟩
  rw [show ((anaF ls (evF x, odF x)).1, (anaF ls (evF x, odF x)).2) = anaF ls (evF x, odF x) from rfl, this]
  exact weave_back hx
theorem analyse_synth {ls : List Lft} {a b : List Int} (h : a.length = b.length) (ha : W32 a) (hb : W32 b) : analyseF ls (synthF ls a b) = (a, b) := by
  unfold synthF analyseF
  have hl := fold_length (-1) ls.reverse (a, b)
  rw [ev_weave, od_weave (by show (List.foldl (lift1 (-1)) (a, b) ls.reverse).1.length = (List.foldl (lift1 (-1)) (a, b) ls.reverse).2.length; rw [hl.1, hl.2]; exact h)]
  exact ana_syn ls (a, b) ⟨ha, hb⟩

/-! ### Around -/
def rot (l : List Int) : List Int := (List.range l.length).map fun i => el l ((i + 1) % l.length)
theorem rot_length (l : List Int) : (rot l).length = l.length := by simp [rot]
theorem rot_el {l : List Int} {i : Nat} (h : i < l.length) : el (rot l) i = el l ((i + 1) % l.length) := by
  unfold rot
  generalize hn : l.length = n at *
  unfold el
  rw [List.getElem?_map, List.getElem?_range h]; rfl
theorem rot_drop {l : List Int} (h : 1 ≤ l.length) : rot l = l.drop 1 ++ [el l 0] := by
  refine list_ext (by rw [rot_length]; simp; omega) fun i hi => ?_
  rw [rot_length] at hi
  rw [rot_el hi]
  unfold el
  rcases Nat.lt_or_ge (i + 1) l.length with h1 | h1
  · rw [Nat.mod_eq_of_lt h1, List.getElem?_append_left (by simp; omega), List.getElem?_drop, Nat.add_comm]
  · have e : (i + 1) % l.length = 0 := by rw [show i + 1 = l.length by omega, Nat.mod_self]
    have e2 : i - (l.drop 1).length = 0 := by simp; omega
    rw [e, List.getElem?_append_right (by simp; omega), e2]; rfl
theorem int_mod_add (a b n : Int) : (a % n + b) % n = (a + b) % n := by
  rw [Int.add_emod (a % n) b n, Int.emod_emod_of_dvd _ (Int.dvd_refl n), ← Int.add_emod]
theorem nat_mod_cast {n : Nat} (a : Int) (h : 0 < n) : ((a % (n : Int)).toNat + 1) % n = ((a + 1) % (n : Int)).toNat := by
  have h0 := Int.emod_nonneg a (show (n : Int) ≠ 0 by omega)
  have h1 := Int.emod_lt_of_pos a (show (0 : Int) < n by omega)
  have h2 := int_mod_add a 1 n
  obtain ⟨q, hq⟩ := Int.eq_ofNat_of_zero_le h0
  rw [← h2, hq]
  have : ((q : Int) + 1) % (n : Int) = (((q + 1) % n : Nat) : Int) := by push_cast; rfl
  rw [this, Int.toNat_natCast, Int.toNat_natCast]
theorem rot_chS {c o : List Int} {st : Int} {n : Nat} (hn : n < o.length) : ∀ k, chS c st (rot o) n k = chS c st o ((n + 1) % o.length) k := by
  intro k
  induction k with
  | zero => rfl
  | succ k ih =>
    unfold chS
    rw [ih, rot_length]
    congr 2
    have h0 := Int.emod_nonneg ((n : Int) + st + k) (show (o.length : Int) ≠ 0 by omega)
    have h1 := Int.emod_lt_of_pos ((n : Int) + st + k) (show (0 : Int) < o.length by omega)
    rw [rot_el (by omega), nat_mod_cast _ (by omega)]
    congr 2
    have e : (((n + 1) % o.length : Nat) : Int) = ((n : Int) + 1) % (o.length : Int) := by push_cast; rfl
    rw [e, show ((n : Int) + 1) % (o.length : Int) + st + k = (((n : Int) + 1) % (o.length : Int)) + (st + k) by omega, int_mod_add]
    congr 1; omega
theorem rot_st {s : Lft} {g : Int} {to fr : List Int} (h : to.length = fr.length) : stF s g (rot to) (rot fr) = rot (stF s g to fr) := by
  refine list_ext (by rw [stF_length, rot_length, rot_length, stF_length]) fun n hn => ?_
  rw [stF_length, rot_length] at hn
  have hm : (n + 1) % to.length < to.length := Nat.mod_lt _ (by omega)
  rw [el_stF (by rw [rot_length]; exact hn), rot_el hn, rot_el (l := stF s g to fr) (by rw [stF_length]; exact hn), stF_length, el_stF hm]
  unfold chF
  rw [rot_chS (by omega), h]
theorem rot_lift {g : Int} {p : List Int × List Int} {s : Lft} (h : p.1.length = p.2.length) : lift1 g (rot p.1, rot p.2) s = (rot (lift1 g p s).1, rot (lift1 g p s).2) := by
  unfold lift1
  by_cases hs : s.1 = true
  · simp only [if_pos hs]
    rw [rot_st h.symm]
  · simp only [if_neg hs]
    rw [rot_st h]
theorem rot_fold (g : Int) (ls : List Lft) : ∀ p : List Int × List Int, p.1.length = p.2.length → ls.foldl (lift1 g) (rot p.1, rot p.2) = (rot (ls.foldl (lift1 g) p).1, rot (ls.foldl (lift1 g) p).2) := by
  induction ls with
  | nil => intro p _; rfl
  | cons s ls ih =>
    intro p h
    have hl := lift1_length g p s
    rw [List.foldl_cons, rot_lift h, ih _ (by rw [hl.1, hl.2]; exact h)]; rfl
/-- A list moved around by two elements. -/
def turn2 (x : List Int) : List Int := x.drop 2 ++ [el x 0, el x 1]
theorem turn2_length {x : List Int} (h : 2 ≤ x.length) : (turn2 x).length = x.length := by simp [turn2]; omega
theorem turn2_el {x : List Int} {i : Nat} (h2 : 2 ≤ x.length) (hi : i < x.length) : el (turn2 x) i = el x ((i + 2) % x.length) := by
  unfold turn2
  rcases Nat.lt_or_ge (i + 2) x.length with h1 | h1
  · rw [Nat.mod_eq_of_lt h1]
    unfold el
    rw [List.getElem?_append_left (by simp; omega), List.getElem?_drop, Nat.add_comm]
  · have : (i + 2) % x.length = i + 2 - x.length := by rw [Nat.mod_eq_sub_mod h1, Nat.mod_eq_of_lt (by omega)]
    rw [this]
    have h3 : (x.drop 2 ++ [el x 0, el x 1])[i]? = [el x 0, el x 1][i + 2 - x.length]? := by
      rw [List.getElem?_append_right (by simp; omega)]
      congr 1; simp; omega
    rw [show el (x.drop 2 ++ [el x 0, el x 1]) i = ([el x 0, el x 1][i + 2 - x.length]?).getD 0 from by unfold el at *; rw [h3]]
    obtain h4 | h4 : i + 2 - x.length = 0 ∨ i + 2 - x.length = 1 := by omega
    · rw [h4]; rfl
    · rw [h4]; rfl
theorem ev_turn {x : List Int} {h : Nat} (hx : x.length = 2 * h) (h1 : 1 ≤ h) : evF (turn2 x) = rot (evF x) := by
  have hl : (turn2 x).length = 2 * h := by rw [turn2_length (by omega), hx]
  refine list_ext (by rw [ev_length hl, rot_length, ev_length hx]) fun i hi => ?_
  rw [ev_length hl] at hi
  rw [el_ev, turn2_el (by omega) (by omega), rot_el (by rw [ev_length hx]; exact hi), el_ev, ev_length hx, hx]
  congr 1
  rw [show 2 * i + 2 = 2 * (i + 1) by omega, Nat.mul_mod_mul_left]
theorem od_turn {x : List Int} {h : Nat} (hx : x.length = 2 * h) (h1 : 1 ≤ h) : odF (turn2 x) = rot (odF x) := by
  have hl : (turn2 x).length = 2 * h := by rw [turn2_length (by omega), hx]
  refine list_ext (by rw [od_length hl, rot_length, od_length hx]) fun i hi => ?_
  rw [od_length hl] at hi
  rw [el_od, turn2_el (by omega) (by omega), rot_el (by rw [od_length hx]; exact hi), el_od, od_length hx, hx]
  congr 1
  rcases Nat.lt_or_ge (i + 1) h with h2 | h2
  · rw [Nat.mod_eq_of_lt (by omega), Nat.mod_eq_of_lt h2]; omega
  · obtain rfl : i + 1 = h := by omega
    rw [Nat.mod_self, Nat.mod_eq_sub_mod (by omega), Nat.mod_eq_of_lt (by omega)]; omega
theorem analyse_turn {ls : List Lft} {x : List Int} {h : Nat} (hx : x.length = 2 * h) (h1 : 1 ≤ h) : analyseF ls (turn2 x) = (rot (analyseF ls x).1, rot (analyseF ls x).2) := by
  unfold analyseF
  rw [ev_turn hx h1, od_turn hx h1]
  exact rot_fold 1 ls (evF x, odF x) (by show (evF x).length = (odF x).length; rw [ev_length hx, od_length hx])
theorem analyse_length {ls : List Lft} {x : List Int} {h : Nat} (hx : x.length = 2 * h) : (analyseF ls x).1.length = h ∧ (analyseF ls x).2.length = h := by
  have := fold_length 1 ls (evF x, odF x)
  exact ⟨this.1.trans (ev_length hx), this.2.trans (od_length hx)⟩
theorem synth_length (ls : List Lft) (a b : List Int) : (synthF ls a b).length = 2 * a.length := by
  unfold synthF
  rw [weave_length]
  have := fold_length (-1) ls.reverse (a, b)
  rw [show (synF ls (a, b)).1.length = a.length from this.1]
end Go.Proofs.YtpmbgcfnehplaaaDoor
end
section
/- Plain laws of trees of bands. -/
set_option linter.unusedVariables false
set_option linter.unusedSimpArgs false
namespace Go.Proofs.YtpmbgcfnehplaaaDoor

/-- The low band behind k levels. -/
def loF (ls : List Lft) (x : List Int) : Nat → List Int
  | 0 => x
  | k + 1 => (analyseF ls (loF ls x k)).1
/-- The high bands of k levels. -/
def hiF (ls : List Lft) (x : List Int) (k : Nat) : List (List Int) := (List.range k).map fun i => (analyseF ls (loF ls x i)).2
def treeB (ls : List Lft) (x : List Int) (k : Nat) : List (List Int) := hiF ls x k ++ [loF ls x k]
def unF (ls : List Lft) (bs : List (List Int)) (a : List Int) : List Int := bs.foldr (fun b x => synthF ls x b) a
theorem hiF_length (ls : List Lft) (x : List Int) (k : Nat) : (hiF ls x k).length = k := by simp [hiF]
theorem hiF_succ (ls : List Lft) (x : List Int) (k : Nat) : hiF ls x (k + 1) = hiF ls x k ++ [(analyseF ls (loF ls x k)).2] := by simp [hiF, List.range_succ]
theorem treeB_length (ls : List Lft) (x : List Int) (k : Nat) : (treeB ls x k).length = k + 1 := by simp [treeB, hiF_length]
theorem w32_analyse2 {ls : List Lft} {x : List Int} (hw : W32 x) : W32 (analyseF ls x).1 ∧ W32 (analyseF ls x).2 := w32_fold 1 ls _ ⟨w32_ev hw, w32_od hw⟩
theorem w32_lo {ls : List Lft} {x : List Int} (hw : W32 x) : ∀ k, W32 (loF ls x k)
  | 0 => hw
  | k + 1 => (w32_analyse2 (w32_lo hw k)).1
theorem w32_hi {ls : List Lft} {x : List Int} (hw : W32 x) (k : Nat) : ∀ l ∈ hiF ls x k, W32 l := fun l hl => by
  unfold hiF at hl
  obtain ⟨i, _, rfl⟩ := List.mem_map.1 hl
  exact (w32_analyse2 (w32_lo hw i)).2
theorem w32_tree {ls : List Lft} {x : List Int} (hw : W32 x) (k : Nat) : ∀ l ∈ treeB ls x k, W32 l := fun l hl => by
  rcases List.mem_append.1 hl with h | h
  · exact w32_hi hw k l h
  · simp at h; subst h; exact w32_lo hw k
/-- What length the bands have. -/
theorem lo_length {ls : List Lft} {x : List Int} {L m : Nat} (hx : x.length = 2 ^ L * m) : ∀ k, k ≤ L → (loF ls x k).length = 2 ^ (L - k) * m
  | 0, _ => hx
  | k + 1, h => by
    have ih := lo_length (ls := ls) hx k (by omega)
    rw [show L - k = (L - (k + 1)) + 1 by omega, Nat.pow_succ, Nat.mul_comm (2 ^ (L - (k + 1))) 2, Nat.mul_assoc] at ih
    exact (analyse_length ih).1
theorem lo_even {ls : List Lft} {x : List Int} {L m k : Nat} (hx : x.length = 2 ^ L * m) (h : k < L) : (loF ls x k).length = 2 * (2 ^ (L - 1 - k) * m) := by
  rw [lo_length hx k (by omega), show L - k = (L - 1 - k) + 1 by omega, Nat.pow_succ, Nat.mul_comm (2 ^ (L - 1 - k)) 2, Nat.mul_assoc]
theorem hi_get {ls : List Lft} {x : List Int} {k i : Nat} (h : i < k) : (hiF ls x k)[i]? = some (analyseF ls (loF ls x i)).2 := by
  unfold hiF
  rw [List.getElem?_map, List.getElem?_range h]; rfl
def lenL (ll : List (List Int)) (i : Nat) : Nat := ((ll[i]?).getD []).length
theorem lenL_get {ll : List (List Int)} {i : Nat} {l : List Int} (h : ll[i]? = some l) : lenL ll i = l.length := by unfold lenL; rw [h]; rfl
theorem tree_len_hi {ls : List Lft} {x : List Int} {L m i : Nat} (hx : x.length = 2 ^ L * m) (h : i < L) : lenL (treeB ls x L) i = 2 ^ (L - 1 - i) * m := by
  rw [lenL_get (l := (analyseF ls (loF ls x i)).2)]
  · exact (analyse_length (lo_even hx h)).2
  · unfold treeB
    rw [List.getElem?_append_left (by rw [hiF_length]; exact h)]
    exact hi_get h
theorem tree_len_lo {ls : List Lft} {x : List Int} {L m : Nat} (hx : x.length = 2 ^ L * m) : lenL (treeB ls x L) L = m := by
  rw [lenL_get (l := loF ls x L)]
  · rw [lo_length hx L (Nat.le_refl _), Nat.sub_self]; simp
  · unfold treeB
    rw [List.getElem?_append_right (by rw [hiF_length]; exact Nat.le_refl _), hiF_length, Nat.sub_self]; rfl
/-- Have the bands the lengths of a tree's? -/
def fitB (ll : List (List Int)) : Bool :=
  decide (2 ≤ ll.length) && (decide (ll.length ≤ 7) && (((List.range (ll.length - 2)).all fun i => decide (2 * lenL ll (i + 1) = lenL ll i)) && decide (lenL ll (ll.length - 1) = lenL ll (ll.length - 2))))
theorem fitB_tree {ls : List Lft} {x : List Int} {L m : Nat} (h1 : 1 ≤ L) (h6 : L ≤ 6) (hx : x.length = 2 ^ L * m) : fitB (treeB ls x L) = true := by
  unfold fitB
  rw [treeB_length, Bool.and_eq_true, Bool.and_eq_true, Bool.and_eq_true, decide_eq_true_eq, decide_eq_true_eq, decide_eq_true_eq]
  refine ⟨by omega, by omega, List.all_eq_true.2 fun i hi => ?_, ?_⟩
  · have hi := List.mem_range.1 hi
    rw [decide_eq_true_eq, tree_len_hi hx (by omega), tree_len_hi hx (by omega), show L - 1 - i = (L - 1 - (i + 1)) + 1 by omega, Nat.pow_succ, Nat.mul_comm (2 ^ (L - 1 - (i + 1))) 2, Nat.mul_assoc]
  · rw [show L + 1 - 1 = L by omega, tree_len_lo hx, show L + 1 - 2 = L - 1 by omega, tree_len_hi hx (by omega), Nat.sub_self]; simp
def sumL (ll : List (List Int)) : Nat := (ll.map List.length).sum
theorem sumL_append (a b : List (List Int)) : sumL (a ++ b) = sumL a + sumL b := by simp [sumL]
theorem tree_sum {ls : List Lft} {x : List Int} {L m : Nat} (hx : x.length = 2 ^ L * m) : ∀ k, k ≤ L → sumL (hiF ls x k) + (loF ls x k).length = x.length
  | 0, _ => by simp [hiF, sumL, loF]
  | k + 1, h => by
    have ih := tree_sum (ls := ls) hx k (by omega)
    have e := lo_even (ls := ls) (k := k) hx (by omega)
    have l2 := (analyse_length (ls := ls) e).2
    have l1 : (loF ls x (k + 1)).length = _ := (analyse_length (ls := ls) e).1
    rw [hiF_succ, sumL_append, l1]
    have : sumL [(analyseF ls (loF ls x k)).2] = (analyseF ls (loF ls x k)).2.length := by simp [sumL]
    rw [this, l2]
    omega
theorem treeB_sum {ls : List Lft} {x : List Int} {L m : Nat} (hx : x.length = 2 ^ L * m) : sumL (treeB ls x L) = x.length := by
  unfold treeB
  rw [sumL_append, ← tree_sum (ls := ls) hx L (Nat.le_refl _)]
  simp [sumL]
theorem un_tree {ls : List Lft} {x : List Int} {L m : Nat} (hx : x.length = 2 ^ L * m) (hw : W32 x) : ∀ k, k ≤ L → unF ls (hiF ls x k) (loF ls x k) = x
  | 0, _ => rfl
  | k + 1, h => by
    have ih := un_tree (ls := ls) hx hw k (by omega)
    unfold unF at ih ⊢
    rw [hiF_succ, List.foldr_append]
    have e := synth_analyse (ls := ls) (lo_even (ls := ls) (k := k) hx (by omega)) (w32_lo hw k)
    have e2 : List.foldr (fun b x => synthF ls x b) (loF ls x (k + 1)) [(analyseF ls (loF ls x k)).2] = loF ls x k := e
    rw [e2]
    exact ih
/-- The lengths on the way back. -/
def unD (ls : List Lft) (bs : List (List Int)) (a : List Int) (i : Nat) : List Int := unF ls (bs.drop i) a
theorem unD_end (ls : List Lft) (bs : List (List Int)) (a : List Int) : unD ls bs a bs.length = a := by unfold unD; rw [List.drop_length]; rfl
theorem unD_zero (ls : List Lft) (bs : List (List Int)) (a : List Int) : unD ls bs a 0 = unF ls bs a := rfl
theorem unD_step {ls : List Lft} {bs : List (List Int)} {a b : List Int} {i : Nat} (h : bs[i]? = some b) : unD ls bs a i = synthF ls (unD ls bs a (i + 1)) b := by
  obtain ⟨hi, rfl⟩ := List.getElem?_eq_some_iff.1 h
  unfold unD
  rw [List.drop_eq_getElem_cons hi]
  rfl
/-- The error of Untree's checks on lengths, opened. -/
theorem fitB_iff {ll : List (List Int)} : fitB ll = true ↔ 2 ≤ ll.length ∧ ll.length ≤ 7 ∧ (∀ i, i + 2 < ll.length → 2 * lenL ll (i + 1) = lenL ll i) ∧ lenL ll (ll.length - 1) = lenL ll (ll.length - 2) := by
  unfold fitB
  rw [Bool.and_eq_true, Bool.and_eq_true, Bool.and_eq_true, decide_eq_true_eq, decide_eq_true_eq, decide_eq_true_eq, List.all_eq_true]
  constructor
  · rintro ⟨h1, h2, h3, h4⟩
    exact ⟨h1, h2, fun i hi => by have := h3 i (List.mem_range.2 (by omega)); simpa using this, h4⟩
  · rintro ⟨h1, h2, h3, h4⟩
    exact ⟨h1, h2, fun i hi => by have := List.mem_range.1 hi; simpa using h3 i (by omega), h4⟩
theorem fit_len {ls : List Lft} {ll bs : List (List Int)} {a : List Int} (hf : fitB ll = true) (he : ll = bs ++ [a]) : ∀ j i, j + (i + 1) = bs.length → (unD ls bs a (i + 1)).length = lenL ll i := by
  obtain ⟨f1, f2, f3, f4⟩ := fitB_iff.1 hf
  have hl : ll.length = bs.length + 1 := by rw [he]; simp
  intro j
  induction j with
  | zero =>
    intro i hi
    rw [show i + 1 = bs.length by omega, unD_end]
    rw [show ll.length - 1 = bs.length by omega, show ll.length - 2 = i by omega] at f4
    rw [← f4]
    rw [lenL_get (l := a)]
    rw [he, List.getElem?_append_right (Nat.le_refl _), Nat.sub_self]; rfl
  | succ j ih =>
    intro i hi
    have hb : bs[i + 1]? = some bs[i + 1] := List.getElem?_eq_getElem (by omega)
    rw [unD_step hb]
    have e := synth_length ls (unD ls bs a (i + 1 + 1)) bs[i + 1]
    rw [e, ih (i + 1) (by omega)]
    exact f3 i (by omega)
theorem w32_synth2 {ls : List Lft} {a b : List Int} (ha : W32 a) (hb : W32 b) : W32 (synthF ls a b) := by
  have := w32_fold (-1) ls.reverse (a, b) ⟨ha, hb⟩
  exact w32_weave this.1 this.2
theorem w32_unD {ls : List Lft} {bs : List (List Int)} {a : List Int} (ha : W32 a) (hb : ∀ l ∈ bs, W32 l) : ∀ j i, j + i = bs.length → W32 (unD ls bs a i) := by
  intro j
  induction j with
  | zero => intro i hi; rw [show i = bs.length by omega, unD_end]; exact ha
  | succ j ih =>
    intro i hi
    have hbi : bs[i]? = some bs[i] := List.getElem?_eq_getElem (by omega)
    rw [unD_step hbi]
    exact w32_synth2 (ih (i + 1) (by omega)) (hb _ (List.getElem_mem _))
theorem fit_sum {ll : List (List Int)} : ∀ (n : Nat), n + 2 = ll.length → (∀ i, i + 2 < ll.length → 2 * lenL ll (i + 1) = lenL ll i) → lenL ll (ll.length - 1) = lenL ll (ll.length - 2) → sumL ll = 2 * lenL ll 0 := by
  intro n
  induction n generalizing ll with
  | zero =>
    intro hn _ h2
    match ll, hn with
    | [a, b], _ => simp [sumL, lenL] at h2 ⊢; omega
  | succ n ih =>
    intro hn h1 h2
    match ll, hn with
    | a :: t, hn =>
      simp at hn
      have s1 : ∀ i, lenL (a :: t) (i + 1) = lenL t i := fun i => by simp [lenL]
      have e := ih (ll := t) (by omega) (fun i hi => by have := h1 (i + 1) (by simp; omega); rw [s1, s1] at this; exact this) (by
        rw [List.length_cons, show t.length + 1 - 1 = (t.length - 1) + 1 by omega, show t.length + 1 - 2 = (t.length - 2) + 1 by omega, s1, s1] at h2; exact h2)
      have h0 := h1 0 (by simp; omega)
      rw [s1] at h0
      have e1 : sumL (a :: t) = a.length + sumL t := by simp [sumL]
      have e0 : lenL (a :: t) 0 = a.length := by simp [lenL]
      rw [e1, e, e0]
      rw [e0] at h0
      omega
end Go.Proofs.YtpmbgcfnehplaaaDoor
end
