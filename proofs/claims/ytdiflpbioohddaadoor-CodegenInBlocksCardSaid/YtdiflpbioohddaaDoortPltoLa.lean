/- Several texts in one: Pl W Fx Fy Fz S Sm La. -/
import Derived.WalkKit
import Derived.Laws.BitsAllLaws
import Derived.Laws.BitsLemmas
import Derived.BigQuiet
import Derived.BigGuardPart
import Derived.Deep.QuietTactic
import Derived.Lib.Hide
import Derived.Test.YtdiflpbioohddaaDoorRows
import Derived.Laws.OwnMore
import Derived.OwnWalk
set_option linter.unusedVariables false
set_option linter.unusedSimpArgs false
section
namespace Go.Proofs.YtdiflpbioohddaaDoor
open Go.RowKit
def inB (v lo hi : Int) : Bool := decide (lo ≤ v) && decide (v ≤ hi)
def okW (b f r o : Int) : Bool := inB b 4 24 && (inB f 0 (b - 1) && (inB r 1 3 && inB o 1 2))
def lowW (b f r o : Int) : Int := if okW b f r o = true then -2 ^ (b - 1).toNat else 0
def highW (b f r o : Int) : Int := if okW b f r o = true then 2 ^ (b - 1).toNat - 1 else 0
def fitsW (b f r o v : Int) : Bool := okW b f r o && inB v (lowW b f r o) (highW b f r o)
def wrapF (b v : Int) : Int := if inB b 1 62 = true then Int.bmod v (2 ^ b.toNat) else 0
def satW (b f r o v : Int) : Int := min (max v (lowW b f r o)) (highW b f r o)
def reduceW (b f r o v : Int) : Int := if okW b f r o = true then (if o = 2 then wrapF b v else satW b f r o v) else 0
def shiftF (v n r : Int) : Int :=
 if (inB n 0 62 && inB r 1 3) = true then
  (if r = 2 then v / 2 ^ n.toNat + (if 0 < n then v / 2 ^ (n - 1).toNat % 2 else 0)
   else if r = 3 then v / 2 ^ n.toNat + (if v < 0 ∧ v % 2 ^ n.toNat ≠ 0 then 1 else 0) else v / 2 ^ n.toNat)
 else 0
def I64 (x : Int) : Prop := -9223372036854775808 ≤ x ∧ x ≤ 9223372036854775807
theorem ret_bool {a b : Bool} (h : a = b) : Ending.returned (.bool a) = .returned (.bool b) := by rw [h]
theorem ret_int {a b : Int} (h : a = b) : Ending.returned (.int .i64 a) = .returned (.int .i64 b) := by rw [h]
theorem bcell {W w1 : World} (hb : Below W.heap.size W w1) : (∀ b o, b < W.heap.size → w1.cell? ⟨b, o, none⟩ = W.cell? ⟨b, o, none⟩) ∧ (∀ b o, b < W.heap.size → w1.frozen? ⟨b, o, none⟩ = W.frozen? ⟨b, o, none⟩) :=
 ⟨fun b o h => hb.cell (p := ⟨b, o, none⟩) h, fun b o h => hb.frozen (p := ⟨b, o, none⟩) h⟩
theorem below_then {W w1 w2 : World} (h : Below W.heap.size W w1) (k : Below w1.heap.size w1 w2) : Below W.heap.size W w2 := h.trans (k.mono h.size)
theorem inB_iff {v lo hi : Int} : inB v lo hi = true ↔ lo ≤ v ∧ v ≤ hi := by simp [inB]
theorem inB_no {v lo hi : Int} : inB v lo hi = false ↔ v < lo ∨ hi < v := by
 rw [Bool.eq_false_iff, ne_eq, inB_iff]; omega
theorem okW_iff {b f r o : Int} : okW b f r o = true ↔ 4 ≤ b ∧ b ≤ 24 ∧ 0 ≤ f ∧ f ≤ b - 1 ∧ 1 ≤ r ∧ r ≤ 3 ∧ 1 ≤ o ∧ o ≤ 2 := by
 simp [okW, inB]; omega
theorem pow_pos' (n : Nat) : (1 : Int) ≤ 2 ^ n := Int.pow_pos (by decide : (0 : Int) < 2)
theorem pow_le {m n : Nat} (h : m ≤ n) : (2 : Int) ^ m ≤ 2 ^ n := by
 have h1 : 2 ^ m ≤ 2 ^ n := Nat.pow_le_pow_right (by decide) h
 have h2 : ((2 ^ m : Nat) : Int) ≤ ((2 ^ n : Nat) : Int) := Int.ofNat_le.2 h1
 simpa using h2
theorem pow62 : (2 : Int) ^ 62 = 4611686018427387904 := by decide
theorem pow_62 {n : Nat} (h : n ≤ 62) : (2 : Int) ^ n ≤ 4611686018427387904 := by have := pow_le h; rwa [pow62] at this
theorem pow_half {n : Nat} (h : 1 ≤ n) : (2 : Int) ^ n = 2 * 2 ^ (n - 1) := by
 obtain ⟨k, rfl⟩ : ∃ k, n = k + 1 := ⟨n - 1, by omega⟩
 rw [Int.pow_succ, Nat.add_sub_cancel]; omega
theorem w64_in {x : Int} (h1 : -9223372036854775808 ≤ x) (h2 : x ≤ 9223372036854775807) : wrap64 x = x := IntWalk.wrap64_in x ⟨h1, h2⟩
theorem w64_pow {n : Nat} (h : n ≤ 62) : wrap64 ((2 : Int) ^ n) = 2 ^ n := w64_in (by have := pow_pos' n; omega) (by have := pow_62 h; omega)
theorem w64_mask {n : Nat} (h : n ≤ 62) : wrap64 (wrap64 ((2 : Int) ^ n) - 1) = 2 ^ n - 1 := by
 rw [w64_pow h]; exact w64_in (by have := pow_pos' n; omega) (by have := pow_62 h; omega)
theorem and_mask (v : Int) {n : Nat} (h : n ≤ 62) : bits .and .i64 v ((2 : Int) ^ n - 1) = v % 2 ^ n := by
 have hp := pow_pos' n
 have hq := pow_62 h
 have e1 : (BitVec.ofInt 64 ((2 : Int) ^ n - 1)).toNat = 2 ^ n - 1 := by
  have h0 : ((2 ^ n : Nat) : Int) = 2 ^ n := by simp
  have h1 : (2 : Int) ^ n - 1 = ((2 ^ n - 1 : Nat) : Int) := by
   have := Nat.one_le_two_pow (n := n)
   omega
  rw [h1, BitVec.ofInt_natCast, BitVec.toNat_ofNat]
  exact Nat.mod_eq_of_lt (by omega)
 have e2 : (BitVec.ofInt 64 v).toNat = (v % 2 ^ 64).toNat := by rw [BitVec.toNat_ofInt]; rfl
 show IntKind.i64.wrap ((BitVec.ofInt 64 v &&& BitVec.ofInt 64 ((2 : Int) ^ n - 1)).toNat : Int) = _
 rw [BitVec.toNat_and, e1, e2, Nat.and_two_pow_sub_one_eq_mod]
 have e3 : (((v % 2 ^ 64).toNat % 2 ^ n : Nat) : Int) = v % 2 ^ n := by
  rw [Int.natCast_emod, Int.toNat_of_nonneg (Int.emod_nonneg _ (by decide)), Int.natCast_pow]
  exact Int.emod_emod_of_dvd v (by
   obtain ⟨k, hk⟩ : ∃ k, 64 = n + k := ⟨64 - n, by omega⟩
   rw [hk, Int.pow_add]; exact Int.dvd_mul_right _ _)
 rw [e3, IntKind.wrap_i64]
 have := Int.emod_nonneg v (by omega : (2 : Int) ^ n ≠ 0)
 have := Int.emod_lt_of_pos v (by omega : (0 : Int) < 2 ^ n)
 omega
theorem and_one (v : Int) : bits .and .i64 v 1 = v % 2 := by
 have := and_mask v (n := 1) (by decide)
 simpa using this
theorem wrap_facts {b : Int} (h1 : 1 ≤ b) (h2 : b ≤ 62) (v : Int) : ∃ P H M : Int, wrap64 (2 ^ b.toNat) = P ∧ wrap64 (2 ^ (b.toNat - 1)) = H ∧ bits .and .i64 v (P - 1) = M ∧
  2 ≤ P ∧ P ≤ 4611686018427387904 ∧ (P ≤ 2 * H ∧ 2 * H ≤ P) ∧ (0 ≤ M ∧ M < P) ∧ M = v % P ∧ wrapF b v = if M < H then M else M - P := by
 have hb : b.toNat ≤ 62 := by omega
 have hh := pow_half (n := b.toNat) (by omega)
 have hp := pow_pos' (b.toNat - 1)
 refine ⟨2 ^ b.toNat, 2 ^ (b.toNat - 1), v % 2 ^ b.toNat, w64_pow hb, w64_pow (by omega), and_mask v hb, by omega, pow_62 hb, by omega, ?_, rfl, ?_⟩
 ·exact ⟨Int.emod_nonneg _ (by omega), Int.emod_lt_of_pos _ (by omega)⟩
 ·unfold wrapF
  rw [if_pos (inB_iff.2 ⟨h1, h2⟩), Int.bmod_def]
  have e : ((2 ^ b.toNat : Nat) : Int) = 2 ^ b.toNat := by simp
  rw [e]
  have : ((2 : Int) ^ b.toNat + 1) / 2 = 2 ^ (b.toNat - 1) := by omega
  rw [this]
theorem low_bits {b f r o : Int} (h : okW b f r o = true) : wrap64 (-wrap64 (2 ^ (b.toNat - 1))) = lowW b f r o := by
 obtain ⟨h1, h2, _⟩ := okW_iff.1 h
 have hp := pow_pos' (b.toNat - 1)
 have hq := pow_62 (n := b.toNat - 1) (by omega)
 rw [w64_pow (by omega), w64_in (by omega) (by omega), lowW, if_pos h, show (b - 1).toNat = b.toNat - 1 by omega]
theorem high_bits {b f r o : Int} (h : okW b f r o = true) : wrap64 (wrap64 (2 ^ (b.toNat - 1)) - 1) = highW b f r o := by
 obtain ⟨h1, h2, _⟩ := okW_iff.1 h
 rw [w64_mask (by omega), highW, if_pos h, show (b - 1).toNat = b.toNat - 1 by omega]
theorem low_high (b f r o : Int) : -8388608 ≤ lowW b f r o ∧ lowW b f r o ≤ 0 ∧ 0 ≤ highW b f r o ∧ highW b f r o ≤ 8388607 := by
 unfold lowW highW
 split
 ·rename_i h
  obtain ⟨h1, h2, _⟩ := okW_iff.1 h
  have hp := pow_pos' (b - 1).toNat
  have hq : (2 : Int) ^ (b - 1).toNat ≤ 2 ^ 23 := pow_le (by omega)
  have h23 : (2 : Int) ^ 23 = 8388608 := by decide
  omega
 ·omega
theorem shift_facts {n v : Int} (h1 : 1 ≤ n) (h2 : n ≤ 62) (hv : I64 v) : ∃ P M D C B : Int, wrap64 (2 ^ n.toNat) = P ∧ bits .and .i64 v (P - 1) = M ∧ v / 2 ^ n.toNat = D ∧ v / 2 ^ (n.toNat - 1) = C ∧ bits .and .i64 C 1 = B ∧
  2 ≤ P ∧ P ≤ 4611686018427387904 ∧ (0 ≤ M ∧ M < P) ∧ (-4611686018427387904 ≤ D ∧ D ≤ 4611686018427387904) ∧ (0 ≤ B ∧ B ≤ 1) ∧ (v = P * D + M) ∧
  shiftF v n 1 = D ∧ shiftF v n 2 = D + B ∧ shiftF v n 3 = (if v < 0 ∧ M ≠ 0 then D + 1 else D) ∧ M = v % P ∧ 2 ^ n.toNat = P := by
 obtain ⟨v1, v2⟩ := hv
 have hb : n.toNat ≤ 62 := by omega
 have hh := pow_half (n := n.toNat) (by omega)
 have hp := pow_pos' (n.toNat - 1)
 have hq := pow_62 hb
 have hd := Int.mul_ediv_add_emod v (2 ^ n.toNat)
 have hm1 := Int.emod_nonneg v (by omega : (2 : Int) ^ n.toNat ≠ 0)
 have hm2 := Int.emod_lt_of_pos v (by omega : (0 : Int) < 2 ^ n.toNat)
 have hin : inB n 0 62 = true := inB_iff.2 ⟨by omega, h2⟩
 refine ⟨2 ^ n.toNat, v % 2 ^ n.toNat, v / 2 ^ n.toNat, v / 2 ^ (n.toNat - 1), v / 2 ^ (n.toNat - 1) % 2, w64_pow hb, and_mask v hb, rfl, rfl, and_one _, by omega, hq, ⟨hm1, hm2⟩, ?_, ⟨by omega, by omega⟩, hd.symm, ?_, ?_, ?_, rfl, rfl⟩
 ·have hP : (2 : Int) ≤ 2 ^ n.toNat := by omega
  generalize (2 : Int) ^ n.toNat = P at *
  generalize hD : v / P = D at *
  constructor
  ·rcases Int.lt_or_le D (-4611686018427387904) with h | h
   ·have : P * (D + 1) ≤ 2 * (D + 1) := Int.mul_le_mul_of_nonpos_right hP (by omega)
    rw [Int.mul_add] at this
    omega
   ·exact h
  ·rcases Int.lt_or_le 4611686018427387904 D with h | h
   ·have : 2 * D ≤ P * D := Int.mul_le_mul_of_nonneg_right hP (by omega)
    omega
   ·exact h
 ·unfold shiftF
  rw [if_pos (by rw [hin]; decide), if_neg (by decide), if_neg (by decide)]
 ·unfold shiftF
  rw [if_pos (by rw [hin]; decide), if_pos rfl, if_pos (by omega), show (n - 1).toNat = n.toNat - 1 by omega]
 ·unfold shiftF
  rw [if_pos (by rw [hin]; decide), if_neg (by decide), if_pos rfl]
  split <;> omega
theorem shift_zero {v r : Int} (h1 : 1 ≤ r) (h2 : r ≤ 3) : shiftF v 0 r = v := by
 unfold shiftF
 rw [if_pos (by simp [inB]; omega)]
 have : v % 2 ^ (0 : Int).toNat = 0 := by simp
 split
 ·simp
 ·split
  ·rw [if_neg (by omega)]; simp
  ·simp
theorem sat_if (b f r o v : Int) : (if highW b f r o < if v < lowW b f r o then lowW b f r o else v then highW b f r o else if v < lowW b f r o then lowW b f r o else v) = satW b f r o v := by
 unfold satW
 generalize lowW b f r o = l
 generalize highW b f r o = h
 rw [Int.min_def, Int.max_def]
 split <;> split <;> (repeat' split) <;> omega
theorem max_if (v l : Int) : (if v < l then l else v) = max v l := by
 rw [Int.max_def]
 split <;> split <;> omega
def withinF (v m : Int) : Int := if m < 1 then 0 else v % m
theorem within_facts {m : Int} (h : 1 ≤ m) (v : Int) : ∃ T : Int, v.tmod m = T ∧ (-m < T ∧ T < m) ∧ (T < 0 → withinF v m = T + m) ∧ (0 ≤ T → withinF v m = T) := by
 have h1 := Int.tmod_eq_emod_of_nonneg (a := v) (b := m)
 have h2 := Int.lt_tmod_of_pos v (by omega : 0 < m)
 have h3 := Int.tmod_lt_of_pos v (by omega : 0 < m)
 have h4 := Int.emod_lt_of_pos v (by omega : 0 < m)
 have h5 := Int.emod_nonneg v (by omega : m ≠ 0)
 have key : withinF v m = v % m := by unfold withinF; rw [if_neg (by omega)]
 refine ⟨v.tmod m, rfl, ⟨h2, h3⟩, fun hn => ?_, fun hn => ?_⟩
 ·rw [key]
  rcases Int.le_total 0 v with h0 | h0
  ·rw [h1 h0] at hn; omega
  ·have := Int.tmod_eq_emod (a := v) (b := m)
   have h6 : (m.natAbs : Int) = m := by omega
   split at this <;> omega
 ·rw [key]
  have := Int.tmod_eq_emod (a := v) (b := m)
  have h6 : (m.natAbs : Int) = m := by omega
  split at this <;> omega
theorem within_in {m : Int} (h : 1 ≤ m) (v : Int) : 0 ≤ withinF v m ∧ withinF v m < m := by
 have h4 := Int.emod_lt_of_pos v (by omega : 0 < m)
 have h5 := Int.emod_nonneg v (by omega : m ≠ 0)
 unfold withinF
 rw [if_neg (by omega)]
 exact ⟨h5, h4⟩
theorem i64_of_wf {x : Int} (h : (Lit.int .i64 x).wf = true) : I64 x := by
 simp [Lit.wf, IntKind.min, IntKind.max, IntKind.signed, IntKind.bits] at h
 exact ⟨by omega, by omega⟩
theorem mul_bound {x y B C : Int} (hx : -B ≤ x ∧ x ≤ B) (hy : -C ≤ y ∧ y ≤ C) : -(B * C) ≤ x * y ∧ x * y ≤ B * C := by
 have hB : 0 ≤ B := by omega
 have hC : 0 ≤ C := by omega
 have h1 : 0 ≤ (B - x) * (C - y) := Int.mul_nonneg (by omega) (by omega)
 have h2 : 0 ≤ (B + x) * (C + y) := Int.mul_nonneg (by omega) (by omega)
 have h3 : 0 ≤ (B - x) * (C + y) := Int.mul_nonneg (by omega) (by omega)
 have h4 : 0 ≤ (B + x) * (C - y) := Int.mul_nonneg (by omega) (by omega)
 simp only [Int.sub_mul, Int.add_mul, Int.mul_sub, Int.mul_add] at h1 h2 h3 h4
 omega
end Go.Proofs.YtdiflpbioohddaaDoor
end
section
namespace Go.Proofs.YtdiflpbioohddaaDoor
open Go.RowKit
theorem below_drewN {B : Nat} {a w : World} (h : Below B a w) (n : Nat) : Below B a (w.drewN n) := ⟨h.os, h.tape, h.output, h.size, h.block⟩
structure Ext (w : World) where
 to : World
 below : Below w.heap.size w to
instance (w : World) : Nonempty (Ext w) := ⟨⟨w, Below.refl _ _⟩⟩
theorem Ext.cell {w : World} (n : Ext w) (p : Addr) (h : p.block < w.heap.size) : n.to.cell? p = w.cell? p := n.below.cell h
theorem Ext.frozen {w : World} (n : Ext w) (p : Addr) (h : p.block < w.heap.size) : n.to.frozen? p = w.frozen? p := n.below.frozen h
theorem wp_region_ext {P : Program} {id : Nat} {Q : Exit → Act → World → Prop} {a : Act} {w : World} {l : List Oper} (hm : P.follows .mixedOrders = true) (hB : Region.lexB .any l.toArray = true)
  (h : wpQuiet P l.toArray (fun w' => ∃ n : Ext w, w' = n.to) (fun a' => ∀ w', (∃ n : Ext w, w' = n.to) → Q .normal a' w') l a) : (Code.region id l.toArray true).wp P Q a w :=
 wp_region_quiet (C := fun w' => ∃ n : Ext w, w' = n.to) hm hB ⟨⟨{ w with drawn := w.drawn + 1 }, ⟨rfl, rfl, rfl, Nat.le_refl _, fun _ _ => rfl⟩⟩, rfl⟩ (by simpa using h)
theorem ext_call {P : Program} {f : FuncId} {args : Array Value} {w : World} {n : Ext w} {v : Value} {R : Ending → World → Prop} (h : Calls P f args n.to R)
  (hR : ∀ e w', R e w' → e = .returned v ∧ Below n.to.heap.size n.to w') : Calls P f args n.to fun e w'' => e = .returned v ∧ ∃ m : Ext w, w'' = m.to :=
 h.mono fun e w' hr => by
  obtain ⟨h1, h2⟩ := hR e w' hr
  exact ⟨h1, ⟨w', n.below.trans (h2.mono n.below.size)⟩, rfl⟩
theorem ext_below {P : Program} {f : FuncId} {args : Array Value} {w : World} {n : Ext w} {v : Value} (h : Calls P f args n.to fun e w' => e = .returned v ∧ Below n.to.heap.size n.to w') :
  Calls P f args n.to fun e w'' => e = .returned v ∧ ∃ m : Ext w, w'' = m.to := ext_call h fun _ _ h => h
theorem ext_same {P : Program} {f : FuncId} {args : Array Value} {w : World} {n : Ext w} {v : Value} (h : Calls P f args n.to fun e w' => e = .returned v ∧ n.to = w') :
  Calls P f args n.to fun e w'' => e = .returned v ∧ ∃ m : Ext w, w'' = m.to := ext_call h fun _ _ h => ⟨h.1, by rw [← h.2]; exact Below.refl _ _⟩
end Go.Proofs.YtdiflpbioohddaaDoor
end
section
namespace Go.Proofs.YtdiflpbioohddaaDoor
open Go.RowKit
abbrev wordV (b f r o : Int) : Value := .agg #[.int .i64 b, .int .i64 f, .int .i64 r, .int .i64 o]
theorem fx_mode (r : Int) (w : World) : Calls Tryd.prog 100 #[.int .i64 r] w fun e w' => e = .returned (.bool (inB r 1 3)) ∧ w = w' := by
 go_enter Tryd.func100, Tryd.ntmps100
 go_wp2
 all_goals go_ret
 all_goals exact ⟨ret_bool (by rw [Bool.eq_iff_iff]; simp [inB]; omega), rfl⟩
theorem rf_In (v lo hi : Int) (w : World) : Calls Tryd.prog 32 #[.int .i64 v, .int .i64 lo, .int .i64 hi] w fun e w' => e = .returned (.bool (inB v lo hi)) ∧ w = w' := by
 go_enter Tryd.func32, Tryd.ntmps32
 go_wp2
 all_goals go_ret
 all_goals exact ⟨ret_bool (by rw [Bool.eq_iff_iff]; simp [inB]; omega), rfl⟩
theorem fx_Valid (b f r o : Int) (w : World) : Calls Tryd.prog 67 #[wordV b f r o] w fun e w' => e = .returned (.bool (okW b f r o)) ∧ Below w.heap.size w w' := by
 go_enter Tryd.func67, Tryd.ntmps67
 go_wp2_with (go_at_call 100; refine (fx_mode _ _).mono ?_; rintro e w' ⟨rfl, rfl⟩)
 all_goals go_ret
 all_goals exact ⟨ret_bool (by rw [Bool.eq_iff_iff]; simp [inB, okW] at *; omega), (Below.refl _ _).alloc (Nat.le_refl _) _⟩
theorem rf_Valid (b f r o : Int) (w : World) : Calls Tryd.prog 31 #[wordV b f r o] w fun e w' => e = .returned (.bool (okW b f r o)) ∧ Below w.heap.size w w' := by
 go_enter Tryd.func31, Tryd.ntmps31
 go_wp2_with (go_at_call 32; refine (rf_In _ _ _ _).mono ?_; rintro e w' ⟨rfl, rfl⟩)
 all_goals go_ret
 all_goals exact ⟨ret_bool (by rw [Bool.eq_iff_iff]; simp [inB, okW, wrap64] at *; omega), (Below.refl _ _).alloc (Nat.le_refl _) _⟩
theorem fx_Valid_is {b f r o : Int} {c : Bool} (h : okW b f r o = c) (w : World) : Calls Tryd.prog 67 #[wordV b f r o] w fun e w' => e = .returned (.bool c) ∧ Below w.heap.size w w' := by
 subst h; exact fx_Valid _ _ _ _ _
theorem fx_Low (b f r o : Int) (w : World) : Calls Tryd.prog 72 #[wordV b f r o] w fun e w' => e = .returned (.int .i64 (lowW b f r o)) ∧ Below w.heap.size w w' := by
 by_cases h : okW b f r o = true
 ·obtain ⟨h1, h2, h3, h4, h5, h6, h7, h8⟩ := okW_iff.1 h
  go_enter Tryd.func72, Tryd.ntmps72
  go_wp2_with (go_at_call 67; refine (fx_Valid _ _ _ _ _).mono ?_; rintro e w' ⟨rfl, hb⟩; obtain ⟨hc, hf⟩ := bcell hb)
  go_ret
  exact ⟨ret_int (by rw [low_bits h]), ((Below.refl _ _).alloc (Nat.le_refl _) _).trans (hb.mono (by simp))⟩
 ·have h0 : okW b f r o = false := by simpa using h
  go_enter Tryd.func72, Tryd.ntmps72
  go_wp2_with (go_at_call 67; refine (fx_Valid _ _ _ _ _).mono ?_; rintro e w' ⟨rfl, hb⟩; obtain ⟨hc, hf⟩ := bcell hb)
  go_ret
  exact ⟨ret_int (by simp [lowW, h]), ((Below.refl _ _).alloc (Nat.le_refl _) _).trans (hb.mono (by simp))⟩
theorem rf_Low (b f r o : Int) (w : World) : Calls Tryd.prog 50 #[wordV b f r o] w fun e w' => e = .returned (.int .i64 (lowW b f r o)) ∧ Below w.heap.size w w' := by
 by_cases h : okW b f r o = true
 ·obtain ⟨h1, h2, h3, h4, h5, h6, h7, h8⟩ := okW_iff.1 h
  go_enter Tryd.func50, Tryd.ntmps50
  go_wp2_with (go_at_call 31; refine (rf_Valid _ _ _ _ _).mono ?_; rintro e w' ⟨rfl, hb⟩; obtain ⟨hc, hf⟩ := bcell hb)
  go_ret
  exact ⟨ret_int (by rw [low_bits h]), ((Below.refl _ _).alloc (Nat.le_refl _) _).trans (hb.mono (by simp))⟩
 ·have h0 : okW b f r o = false := by simpa using h
  go_enter Tryd.func50, Tryd.ntmps50
  go_wp2_with (go_at_call 31; refine (rf_Valid _ _ _ _ _).mono ?_; rintro e w' ⟨rfl, hb⟩; obtain ⟨hc, hf⟩ := bcell hb)
  go_ret
  exact ⟨ret_int (by simp [lowW, h]), ((Below.refl _ _).alloc (Nat.le_refl _) _).trans (hb.mono (by simp))⟩
theorem fx_High (b f r o : Int) (w : World) : Calls Tryd.prog 73 #[wordV b f r o] w fun e w' => e = .returned (.int .i64 (highW b f r o)) ∧ Below w.heap.size w w' := by
 by_cases h : okW b f r o = true
 ·obtain ⟨h1, h2, h3, h4, h5, h6, h7, h8⟩ := okW_iff.1 h
  go_enter Tryd.func73, Tryd.ntmps73
  go_wp2_with (go_at_call 67; refine (fx_Valid _ _ _ _ _).mono ?_; rintro e w' ⟨rfl, hb⟩; obtain ⟨hc, hf⟩ := bcell hb)
  go_ret
  exact ⟨ret_int (by rw [high_bits h]), ((Below.refl _ _).alloc (Nat.le_refl _) _).trans (hb.mono (by simp))⟩
 ·have h0 : okW b f r o = false := by simpa using h
  go_enter Tryd.func73, Tryd.ntmps73
  go_wp2_with (go_at_call 67; refine (fx_Valid _ _ _ _ _).mono ?_; rintro e w' ⟨rfl, hb⟩; obtain ⟨hc, hf⟩ := bcell hb)
  go_ret
  exact ⟨ret_int (by simp [highW, h]), ((Below.refl _ _).alloc (Nat.le_refl _) _).trans (hb.mono (by simp))⟩
theorem rf_High (b f r o : Int) (w : World) : Calls Tryd.prog 51 #[wordV b f r o] w fun e w' => e = .returned (.int .i64 (highW b f r o)) ∧ Below w.heap.size w w' := by
 by_cases h : okW b f r o = true
 ·obtain ⟨h1, h2, h3, h4, h5, h6, h7, h8⟩ := okW_iff.1 h
  go_enter Tryd.func51, Tryd.ntmps51
  go_wp2_with (go_at_call 31; refine (rf_Valid _ _ _ _ _).mono ?_; rintro e w' ⟨rfl, hb⟩; obtain ⟨hc, hf⟩ := bcell hb)
  go_ret
  exact ⟨ret_int (by rw [high_bits h]), ((Below.refl _ _).alloc (Nat.le_refl _) _).trans (hb.mono (by simp))⟩
 ·have h0 : okW b f r o = false := by simpa using h
  go_enter Tryd.func51, Tryd.ntmps51
  go_wp2_with (go_at_call 31; refine (rf_Valid _ _ _ _ _).mono ?_; rintro e w' ⟨rfl, hb⟩; obtain ⟨hc, hf⟩ := bcell hb)
  go_ret
  exact ⟨ret_int (by simp [highW, h]), ((Below.refl _ _).alloc (Nat.le_refl _) _).trans (hb.mono (by simp))⟩
theorem fx_Wrap (b v : Int) (w : World) : Calls Tryd.prog 106 #[.int .i64 b, .int .i64 v] w fun e w' => e = .returned (.int .i64 (wrapF b v)) ∧ w = w' := by
 by_cases h : inB b 1 62 = true
 ·obtain ⟨h1, h2⟩ := inB_iff.1 h
  obtain ⟨P, H, M, e1, e2, e3, a1, a2, a3, a4, a5, e4⟩ := wrap_facts h1 h2 v
  have E := Lib.hid e4
  clear e4 h a5
  go_enter Tryd.func106, Tryd.ntmps106
  go_wp2
  all_goals go_ret
  all_goals refine ⟨ret_int ?_, rfl⟩
  ·rw [E.out, if_neg (by omega)]
  ·rw [E.out, if_pos (by omega)]
 ·have h' : inB b 1 62 = false := by simpa using h
  have := inB_no.1 h'
  have E : Hid (wrapF b v = 0) := by unfold wrapF; rw [if_neg h]; exact rfl
  clear h h'
  go_enter Tryd.func106, Tryd.ntmps106
  go_wp2
  all_goals go_ret
  all_goals exact ⟨ret_int E.out.symm, rfl⟩
end Go.Proofs.YtdiflpbioohddaaDoor
end
section
namespace Go.Proofs.YtdiflpbioohddaaDoor
open Go.RowKit
set_option maxHeartbeats 1000000 in
theorem fx_Shift (v n r : Int) (w : World) (hv : I64 v) : Calls Tryd.prog 78 #[.int .i64 v, .int .i64 n, .int .i64 r] w fun e w' => e = .returned (.int .i64 (shiftF v n r)) ∧ Below w.heap.size w w' := by
 by_cases h : inB n 0 62 = true
 ·obtain ⟨h1, h2⟩ := inB_iff.1 h
  by_cases h' : inB r 1 3 = true
  ·obtain ⟨h3, h4⟩ := inB_iff.1 h'
   by_cases hn : n = 0
   ·subst hn
    have E := Lib.hid (shift_zero (v := v) h3 h4)
    clear h1 h2
    go_enter Tryd.func78, Tryd.ntmps78
    go_wp2_with (go_at_call 100; refine (fx_mode _ _).mono ?_; rintro e w' ⟨rfl, rfl⟩)
    go_ret
    exact ⟨ret_int E.out.symm, Below.refl _ _⟩
   ·have hn1 : 1 ≤ n := by omega
    obtain ⟨P, M, D, C, B, e1, e2, e3, e4, e5, a1, a2, a3, a4, a5, e6, f1, f2, f3, e7, e8⟩ := shift_facts hn1 h2 hv
    have E1 := Lib.hid f1
    have E2 := Lib.hid f2
    have E3 := Lib.hid f3
    clear h e6 f1 f2 f3 e7 e8
    have hr : r = 1 ∨ r = 2 ∨ r = 3 := by omega
    by_cases hv0 : v < 0
    ·by_cases hm : M = 0
     ·have hm' : (M != 0) = false := by simp [hm]
      have E3' : Hid (shiftF v n 3 = D) := by rw [E3.out, if_neg (by omega)]; exact rfl
      clear hm E3
      rcases hr with rfl | rfl | rfl
      all_goals
       go_enter Tryd.func78, Tryd.ntmps78
       go_wp2_with (go_at_call 100; refine (fx_mode _ _).mono ?_; rintro e w' ⟨rfl, rfl⟩)
       all_goals try (exfalso; omega)
       go_ret
       exact ⟨ret_int (by first | exact E1.out.symm | exact E2.out.symm | exact E3'.out.symm), (Below.refl _ _).alloc (Nat.le_refl _) _⟩
     ·have hm' : (M != 0) = true := by simp [hm]
      have E3' : Hid (shiftF v n 3 = D + 1) := by rw [E3.out, if_pos ⟨by omega, by omega⟩]; exact rfl
      clear hm E3
      rcases hr with rfl | rfl | rfl
      all_goals
       go_enter Tryd.func78, Tryd.ntmps78
       go_wp2_with (go_at_call 100; refine (fx_mode _ _).mono ?_; rintro e w' ⟨rfl, rfl⟩)
       all_goals try (exfalso; omega)
       go_ret
       exact ⟨ret_int (by first | exact E1.out.symm | exact E2.out.symm | exact E3'.out.symm), (Below.refl _ _).alloc (Nat.le_refl _) _⟩
    ·have E3' : Hid (shiftF v n 3 = D) := by rw [E3.out, if_neg (by omega)]; exact rfl
     clear E3
     rcases hr with rfl | rfl | rfl
     all_goals
      go_enter Tryd.func78, Tryd.ntmps78
      go_wp2_with (go_at_call 100; refine (fx_mode _ _).mono ?_; rintro e w' ⟨rfl, rfl⟩)
      all_goals try (exfalso; omega)
      go_ret
      exact ⟨ret_int (by first | exact E1.out.symm | exact E2.out.symm | exact E3'.out.symm), (Below.refl _ _).alloc (Nat.le_refl _) _⟩
  ·have h'' : inB r 1 3 = false := by simpa using h'
   have E : Hid (shiftF v n r = 0) := by unfold shiftF; rw [if_neg (by simp [h, h''])]; exact rfl
   clear h h'
   go_enter Tryd.func78, Tryd.ntmps78
   go_wp2_with (go_at_call 100; refine (fx_mode _ _).mono ?_; rintro e w' ⟨rfl, rfl⟩)
   all_goals go_ret
   all_goals exact ⟨ret_int E.out.symm, Below.refl _ _⟩
 ·have h' : inB n 0 62 = false := by simpa using h
  have hn := inB_no.1 h'
  have E : Hid (shiftF v n r = 0) := by unfold shiftF; rw [if_neg (by simp [h'])]; exact rfl
  clear h h'
  go_enter Tryd.func78, Tryd.ntmps78
  go_wp2_with (go_at_call 100; refine (fx_mode _ _).mono ?_; rintro e w' ⟨rfl, rfl⟩)
  all_goals go_ret
  all_goals exact ⟨ret_int E.out.symm, Below.refl _ _⟩
end Go.Proofs.YtdiflpbioohddaaDoor
end
section
namespace Go.Proofs.YtdiflpbioohddaaDoor
open Go.RowKit
theorem fx_Fits (b f r o v : Int) (w : World) : Calls Tryd.prog 40 #[wordV b f r o, .int .i64 v] w fun e w' => e = .returned (.bool (fitsW b f r o v)) ∧ Below w.heap.size w w' := by
 rcases Bool.eq_false_or_eq_true (okW b f r o) with h | h
 ·go_enter Tryd.func40, Tryd.ntmps40
  go_wp2_with (first
   | (go_at_call 67; refine (fx_Valid_is h _).mono ?_; rintro e w1 ⟨rfl, hb1⟩; obtain ⟨hc1, hf1⟩ := bcell hb1)
   | (go_at_call 72; refine (fx_Low _ _ _ _ _).mono ?_; rintro e w2 ⟨rfl, hb2'⟩; have hb2 := below_then hb1 hb2'; clear hb2'; obtain ⟨hc2, hf2⟩ := bcell hb2)
   | (go_at_call 73; refine (fx_High _ _ _ _ _).mono ?_; rintro e w3 ⟨rfl, hb3'⟩; have hb3 := below_then hb2 hb3'; clear hb3'))
  all_goals go_ret
  ·exact ⟨ret_bool (by simp [fitsW, h, inB]; omega), ((Below.refl _ _).alloc (Nat.le_refl _) _).trans (hb3.mono (by simp))⟩
  ·exact ⟨ret_bool (by simp [fitsW, h, inB]; omega), ((Below.refl _ _).alloc (Nat.le_refl _) _).trans (hb2.mono (by simp))⟩
 ·go_enter Tryd.func40, Tryd.ntmps40
  go_wp2_with (first
   | (go_at_call 67; refine (fx_Valid_is h _).mono ?_; rintro e w1 ⟨rfl, hb1⟩))
  all_goals go_ret
  all_goals exact ⟨ret_bool (by simp [fitsW, h]), ((Below.refl _ _).alloc (Nat.le_refl _) _).trans (hb1.mono (by simp))⟩
theorem fx_Saturate (b f r o v : Int) (w : World) : Calls Tryd.prog 107 #[wordV b f r o, .int .i64 v] w fun e w' => e = .returned (.int .i64 (satW b f r o v)) ∧ Below w.heap.size w w' := by
 have hx := @Ext.cell
 go_enter Tryd.func107, Tryd.ntmps107
 go_wp2_with fail
 refine wp_region_ext (by kernel_rfl) (by kernel_rfl) ?_
 repeat (go_big_quiet_step (first
   | (go_at_call 72; exact ext_below (fx_Low _ _ _ _ _))
   | (go_at_call 73; exact ext_below (fx_High _ _ _ _ _))))
 refine wpQuiet_nil ?_
 rintro _ ⟨⟨w1, hb1⟩, rfl⟩
 rw [sat_if]
 simp only [max_if]
 go_wp2
 go_ret
 exact ⟨ret_int rfl, ((Below.refl _ _).alloc (Nat.le_refl _) _).trans (hb1.mono (by simp))⟩
theorem fx_Reduce (b f r o v : Int) (w : World) : Calls Tryd.prog 79 #[wordV b f r o, .int .i64 v] w fun e w' => e = .returned (.int .i64 (reduceW b f r o v)) ∧ Below w.heap.size w w' := by
 rcases Bool.eq_false_or_eq_true (okW b f r o) with h | h
 ·rcases (show o = 1 ∨ o = 2 by have := okW_iff.1 h; omega) with rfl | rfl
  all_goals
   go_enter Tryd.func79, Tryd.ntmps79
   go_wp2_with (first
    | (go_at_call 67; refine (fx_Valid_is h _).mono ?_; rintro e w1 ⟨rfl, hb1⟩; obtain ⟨hc1, hf1⟩ := bcell hb1)
    | (go_at_call 106; refine (fx_Wrap _ _ _).mono ?_; rintro e w2 ⟨rfl, hb2⟩)
    | (go_at_call 107; refine (fx_Saturate _ _ _ _ _ _).mono ?_; rintro e w2 ⟨rfl, hb2⟩))
   go_ret
   refine ⟨ret_int (by simp [reduceW, h]), ?_⟩
   first
    | (subst hb2; exact ((Below.refl _ _).alloc (Nat.le_refl _) _).trans (hb1.mono (by simp)))
    | exact (((Below.refl _ _).alloc (Nat.le_refl _) _).trans (hb1.mono (by simp))).trans (hb2.mono (by have := hb1.size; simp at this; omega))
 ·go_enter Tryd.func79, Tryd.ntmps79
  go_wp2_with (first
   | (go_at_call 67; refine (fx_Valid_is h _).mono ?_; rintro e w1 ⟨rfl, hb1⟩))
  go_ret
  exact ⟨ret_int (by simp [reduceW, h]), ((Below.refl _ _).alloc (Nat.le_refl _) _).trans (hb1.mono (by simp))⟩
end Go.Proofs.YtdiflpbioohddaaDoor
end
section
namespace Go.Proofs.YtdiflpbioohddaaDoor
open Go.RowKit
theorem block_add (a : Addr) (n : Nat) : (a.add n).block = a.block := by unfold Addr.add; split <;> rfl
theorem add_add (a : Addr) (i j : Nat) : (a.add i).add j = a.add (i + j) := by
 unfold Addr.add
 by_cases hi : i = 0 <;> by_cases hj : j = 0 <;> simp [hi, hj, Nat.add_assoc]
def Row (w : World) (B : Nat) (A : Option Addr) (xs : List Value) : Prop :=
 ∀ (k : Nat) (v : Value), xs[k]? = some v → ∃ ad, A = some ad ∧ ad.block < B ∧ w.cell? (ad.add k) = some v
section
variable {w w' : World} {B B' : Nat} {A : Option Addr} {xs : List Value}
theorem Row.nil : Row w B A [] := fun k v h => by simp at h
theorem Row.keep (h : Row w B A xs) (hb : Below B w w') : Row w' B A xs := fun k v hk => by
 obtain ⟨ad, e, h1, h2⟩ := h k v hk
 exact ⟨ad, e, h1, (hb.cell (by rw [block_add]; exact h1)).trans h2⟩
theorem Row.more (h : Row w B A xs) (hB : B ≤ B') : Row w B' A xs := fun k v hk => by
 obtain ⟨ad, e, h1, h2⟩ := h k v hk
 exact ⟨ad, e, by omega, h2⟩
theorem Row.grow (h : Row w w.heap.size A xs) (hb : Below w.heap.size w w') : Row w' w'.heap.size A xs := (h.keep hb).more hb.size
theorem Row.at_ {k : Nat} (h : Row w B A xs) (hk : k < xs.length) : ∃ ad v, A = some ad ∧ ad.block < B ∧ xs[k]? = some v ∧ w.cell? (ad.add k) = some v := by
 obtain ⟨ad, e, h1, h2⟩ := h k xs[k] (List.getElem?_eq_getElem hk)
 exact ⟨ad, xs[k], e, h1, List.getElem?_eq_getElem hk, h2⟩
theorem Row.of_own {base n c : Nat} {e : TypeId} (h : w.ownsRow base e 1 (.slice A n c) n xs) : Row w w.heap.size A xs := fun k v hk => by
 have h0 := h
 obtain ⟨hl, h2 | ⟨g, cap, cur, hv, hb, hh, hn, hm, hs, ht⟩⟩ := h
 ·obtain ⟨_, rfl⟩ := h2
  have : xs = [] := List.eq_nil_of_length_eq_zero (by omega)
  subst this; simp at hk
 ·injection hv with hA
  subst hA
  exact ⟨_, rfl, (h0.lt g rfl).2, h0.cells (g := g) rfl k v hk⟩
end
theorem own_form {w : World} {base n size : Nat} {e : TypeId} {v : Value} {xs : List Value} (h : w.ownsRow base e size v n xs) : ∃ A c, v = .slice A n c ∧ n ≤ c := by
 obtain ⟨_, ⟨rfl, rfl⟩ | ⟨g, cap, cur, rfl, _, _, hn, _⟩⟩ := h
 ·exact ⟨none, 0, rfl, Nat.le_refl _⟩
 ·exact ⟨_, cap, rfl, hn⟩
def Ints (w : World) (A : Option Addr) (l : List Int) : Prop := Row w w.heap.size A (l.map (Value.int .i64)) ∧ ∀ x ∈ l, I64 x
section
variable {w w' : World} {A : Option Addr} {l : List Int}
theorem Ints.nil : Ints w A [] := ⟨Row.nil, by simp⟩
theorem Ints.grow (h : Ints w A l) (hb : Below w.heap.size w w') : Ints w' A l := ⟨h.1.grow hb, h.2⟩
theorem Ints.at_ {k : Nat} (h : Ints w A l) (hk : k < l.length) : ∃ ad x, A = some ad ∧ ad.block < w.heap.size ∧ l[k]? = some x ∧ w.cell? (ad.add k) = some (.int .i64 x) ∧ -9223372036854775808 ≤ x ∧ x ≤ 9223372036854775807 := by
 obtain ⟨ad, v, e, h1, h2, h3⟩ := h.1.at_ (k := k) (by simpa using hk)
 have hx : l[k]? = some l[k] := List.getElem?_eq_getElem hk
 rw [List.getElem?_map, hx] at h2
 simp only [Option.map_some, Option.some.injEq] at h2
 subst h2
 obtain ⟨i1, i2⟩ := h.2 l[k] (List.getElem_mem hk)
 exact ⟨ad, l[k], e, h1, hx, h3, i1, i2⟩
end
theorem take_succ_all {α : Type} {l : List α} {k : Nat} {x : α} (h : l[k]? = some x) (p : α → Bool) : (l.take (k + 1)).all p = ((l.take k).all p && p x) := by
 rw [List.take_add_one, h]; simp
theorem all_no {α : Type} {l : List α} {k : Nat} {x : α} (h : l[k]? = some x) {p : α → Bool} (hp : p x = false) : l.all p = false := by
 rw [List.all_eq_false]; exact ⟨x, List.mem_of_getElem? h, by simp [hp]⟩
theorem take_snoc' {α : Type} {l : List α} {k : Nat} {x : α} (h : l[k]? = some x) : l.take (k + 1) = l.take k ++ [x] := by
 rw [List.take_add_one, h]; simp
end Go.Proofs.YtdiflpbioohddaaDoor
end
section
namespace Go.Proofs.YtdiflpbioohddaaDoor
open Go.RowKit
def wordsB (b f r o : Int) (l : List Int) : Bool := l.all fun x => fitsW b f r o x
theorem rf_SameInts (A B : Option Addr) (l m : List Int) (c d : Nat) (w : World) (hm : m.length ≤ 9223372036854775807) (h : Ints w A l) (g : Ints w B m) :
  Calls Tryd.prog 26 #[.slice A l.length c, .slice B m.length d] w fun e w' => e = .returned (.bool (l == m)) ∧ Below w.heap.size w w' := by
 by_cases hlen : l.length = m.length
 ·have hlen' : ((l.length : Int) != (m.length : Int)) = false := by simp [hlen]
  have HL := Lib.hid hlen
  have hle : l.length ≤ m.length := by omega
  clear hlen
  go_enter Tryd.func26, Tryd.ntmps26
  go_wp2
  go_loopw [5] (fun i wr => ∃ k : Nat, k ≤ l.length ∧ i = .int .i64 k ∧ l.take k = m.take k ∧ Below w.heap.size w wr) (fun i _ => l.length - (intOf i).toNat)
  case atStart => exact ⟨0, Nat.zero_le _, rfl, rfl, Below.refl _ _⟩
  case round =>
   obtain ⟨k, hk, rfl, hall, hbw⟩ := hrel
   by_cases hlt : k < l.length
   ·obtain ⟨ad, x, rfl, hb, hx, hc, i1, i2⟩ := h.at_ hlt
    obtain ⟨ad2, y, rfl, hb2, hy, hc2, j1, j2⟩ := g.at_ (k := k) (by omega)
    have q1 := (hbw.cell (p := ad.add k) (by rw [block_add]; exact hb)).trans hc
    have q2 := (hbw.cell (p := ad2.add k) (by rw [block_add]; exact hb2)).trans hc2
    have HS := Lib.hid (take_snoc' hx)
    have HT := Lib.hid (take_snoc' hy)
    have HA := Lib.hid hall
    have HX := Lib.hid hx
    have HY := Lib.hid hy
    clear hall hx hy hc hc2 h g
    by_cases hxy : x = y
    ·subst hxy
     go_wp2
     go_quiet (fail)
     go_wp2
     go_roundw
     case rel => exact ⟨k + 1, by omega, by go_num, by rw [HS.out, HT.out, HA.out], below_drewN hbw _⟩
     case measure => simp [intOf]; omega
    ·have hne : (x != y) = true := by simp [hxy]
     go_wp2
     go_quiet (fail)
     go_wp2
     go_ret
     refine ⟨ret_bool ?_, below_drewN hbw _⟩
     have h1 := HX.out
     have h2 := HY.out
     symm
     rw [beq_eq_false_iff_ne]
     intro e
     rw [e, h2] at h1
     exact hxy (Option.some.inj h1).symm
   ·go_wp2
    go_ret
    refine ⟨ret_bool ?_, hbw⟩
    have h1 := HL.out
    rw [List.take_of_length_le (by omega), List.take_of_length_le (by omega)] at hall
    rw [hall]; simp
 ·have hlen' : ((l.length : Int) != (m.length : Int)) = true := by simp; omega
  have hne : (l == m) = false := by simp; intro e; rw [e] at hlen; exact hlen rfl
  have HE := Lib.hid hne
  clear hlen hne
  go_enter Tryd.func26, Tryd.ntmps26
  go_wp2
  go_ret
  exact ⟨ret_bool HE.out.symm, Below.refl _ _⟩
def atF (l : List Int) (i : Int) : Int := if 0 ≤ i then l[i.toNat]?.getD 0 else 0
theorem atF_nat {l : List Int} {k : Nat} {x : Int} (h : l[k]? = some x) : atF l (k : Int) = x := by
 unfold atF; rw [if_pos (by omega), Int.toNat_natCast, h]; rfl
theorem atF_no {l : List Int} {i : Int} (h : i < 0 ∨ (l.length : Int) ≤ i) : atF l i = 0 := by
 unfold atF
 split
 ·rw [List.getElem?_eq_none (by omega)]; rfl
 ·rfl
theorem wd_At (A : Option Addr) (l : List Int) (c : Nat) (i : Int) (w : World) (h : Ints w A l) :
  Calls Tryd.prog 24 #[.slice A l.length c, .int .i64 i] w fun e w' => e = .returned (.int .i64 (atF l i)) ∧ w = w' := by
 by_cases h1 : 0 ≤ i ∧ i < l.length
 ·obtain ⟨k, rfl⟩ := Int.eq_ofNat_of_zero_le h1.1
  have h2 : k < l.length := by omega
  obtain ⟨ad, x, rfl, hb, hx, hc, i1, i2⟩ := h.at_ h2
  have HX := Lib.hid (atF_nat hx)
  clear hx h h1
  go_enter Tryd.func24, Tryd.ntmps24
  go_wp2
  go_ret
  exact ⟨ret_int HX.out.symm, rfl⟩
 ·have HX := Lib.hid (atF_no (l := l) (i := i) (by omega))
  have h2 : 0 ≤ i → (l.length : Int) ≤ i := by omega
  clear h1
  go_enter Tryd.func24, Tryd.ntmps24
  go_wp2
  all_goals go_ret
  all_goals exact ⟨ret_int HX.out.symm, rfl⟩
end Go.Proofs.YtdiflpbioohddaaDoor
end
section
namespace Go.Proofs.YtdiflpbioohddaaDoor
open Go.RowKit
theorem wd_Within (v m : Int) (w : World) (hm : m ≤ 9223372036854775807) : Calls Tryd.prog 23 #[.int .i64 v, .int .i64 m] w fun e w' => e = .returned (.int .i64 (withinF v m)) ∧ w = w' := by
 by_cases h : 1 ≤ m
 ·obtain ⟨T, e1, a1, f1, f2⟩ := within_facts h v
  have F1 := Lib.hid f1
  have F2 := Lib.hid f2
  clear f1 f2
  go_enter Tryd.func23, Tryd.ntmps23
  go_wp2
  all_goals go_ret
  ·exact ⟨ret_int (F1.out (by omega)).symm, rfl⟩
  ·exact ⟨ret_int (F2.out (by omega)).symm, rfl⟩
 ·have E : Hid (withinF v m = 0) := by unfold withinF; rw [if_pos (by omega)]; exact rfl
  go_enter Tryd.func23, Tryd.ntmps23
  go_wp2
  go_ret
  exact ⟨ret_int E.out.symm, rfl⟩
end Go.Proofs.YtdiflpbioohddaaDoor
end
