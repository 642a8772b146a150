/- Several texts in one: Pl W S A K Za. -/
import Derived.WalkKit
import Derived.Laws.BitsAllLaws
import Derived.Laws.BitsLemmas
import Derived.BigQuiet
import Derived.BigGuardPart
import Derived.Deep.QuietTactic
import Derived.Lib.Hide
import Derived.Laws.OwnMore
import Derived.OwnWalk
import Derived.Test.YtmdfgidejdiiiaaRows
import Derived.Laws.MakeOwn
set_option linter.unusedVariables false
set_option linter.unusedSimpArgs false
section
namespace Go.Proofs.Ytmdfgidejdiiiaa
open Go.RowKit
def inB (v lo hi : Int) : Bool := decide (lo ≤ v) && decide (v ≤ hi)
def wrapF (b v : Int) : Int := if inB b 1 62 = true then Int.bmod v (2 ^ b.toNat) else 0
def shiftF (v n r : Int) : Int :=
  if (inB n 0 62 && inB r 1 3) = true then
    (if r = 2 then v / 2 ^ n.toNat + (if 0 < n then v / 2 ^ (n - 1).toNat % 2 else 0)
     else if r = 3 then v / 2 ^ n.toNat + (if v < 0 ∧ v % 2 ^ n.toNat ≠ 0 then 1 else 0) else v / 2 ^ n.toNat)
  else 0
def I64 (x : Int) : Prop := -9223372036854775808 ≤ x ∧ x ≤ 9223372036854775807
theorem ret_bool {a b : Bool} (h : a = b) : Ending.returned (.bool a) = .returned (.bool b) := by rw [h]
theorem ret_int {a b : Int} (h : a = b) : Ending.returned (.int .i64 a) = .returned (.int .i64 b) := by rw [h]
theorem below_then {W w1 w2 : World} (h : Below W.heap.size W w1) (k : Below w1.heap.size w1 w2) : Below W.heap.size W w2 := h.trans (k.mono h.size)
theorem inB_iff {v lo hi : Int} : inB v lo hi = true ↔ lo ≤ v ∧ v ≤ hi := by simp [inB]
theorem inB_no {v lo hi : Int} : inB v lo hi = false ↔ v < lo ∨ hi < v := by
  rw [Bool.eq_false_iff, ne_eq, inB_iff]; omega
theorem pow_pos' (n : Nat) : (1 : Int) ≤ 2 ^ n := Int.pow_pos (by decide : (0 : Int) < 2)
theorem pow_le {m n : Nat} (h : m ≤ n) : (2 : Int) ^ m ≤ 2 ^ n := by
  have h1 : 2 ^ m ≤ 2 ^ n := Nat.pow_le_pow_right (by decide) h
  have h2 : ((2 ^ m : Nat) : Int) ≤ ((2 ^ n : Nat) : Int) := Int.ofNat_le.2 h1
  simpa using h2
theorem pow62 : (2 : Int) ^ 62 = 4611686018427387904 := by decide
theorem pow_62 {n : Nat} (h : n ≤ 62) : (2 : Int) ^ n ≤ 4611686018427387904 := by have := pow_le h; rwa [pow62] at this
theorem pow_half {n : Nat} (h : 1 ≤ n) : (2 : Int) ^ n = 2 * 2 ^ (n - 1) := by
  obtain ⟨k, rfl⟩ : ∃ k, n = k + 1 := ⟨n - 1, by omega⟩
  rw [Int.pow_succ, Nat.add_sub_cancel]; omega
theorem w64_in {x : Int} (h1 : -9223372036854775808 ≤ x) (h2 : x ≤ 9223372036854775807) : wrap64 x = x := IntWalk.wrap64_in x ⟨h1, h2⟩
theorem w64_pow {n : Nat} (h : n ≤ 62) : wrap64 ((2 : Int) ^ n) = 2 ^ n := w64_in (by have := pow_pos' n; omega) (by have := pow_62 h; omega)
theorem and_mask (v : Int) {n : Nat} (h : n ≤ 62) : bits .and .i64 v ((2 : Int) ^ n - 1) = v % 2 ^ n := by
  have hp := pow_pos' n
  have hq := pow_62 h
  have e1 : (BitVec.ofInt 64 ((2 : Int) ^ n - 1)).toNat = 2 ^ n - 1 := by
    have h0 : ((2 ^ n : Nat) : Int) = 2 ^ n := by simp
    have h1 : (2 : Int) ^ n - 1 = ((2 ^ n - 1 : Nat) : Int) := by
      have := Nat.one_le_two_pow (n := n)
      omega
    rw [h1, BitVec.ofInt_natCast, BitVec.toNat_ofNat]
    exact Nat.mod_eq_of_lt (by omega)
  have e2 : (BitVec.ofInt 64 v).toNat = (v % 2 ^ 64).toNat := by rw [BitVec.toNat_ofInt]; rfl
  show IntKind.i64.wrap ((BitVec.ofInt 64 v &&& BitVec.ofInt 64 ((2 : Int) ^ n - 1)).toNat : Int) = _
  rw [BitVec.toNat_and, e1, e2, Nat.and_two_pow_sub_one_eq_mod]
  have e3 : (((v % 2 ^ 64).toNat % 2 ^ n : Nat) : Int) = v % 2 ^ n := by
    rw [Int.natCast_emod, Int.toNat_of_nonneg (Int.emod_nonneg _ (by decide)), Int.natCast_pow]
    exact Int.emod_emod_of_dvd v (by
      obtain ⟨k, hk⟩ : ∃ k, 64 = n + k := ⟨64 - n, by omega⟩
      rw [hk, Int.pow_add]; exact Int.dvd_mul_right _ _)
  rw [e3, IntKind.wrap_i64]
  have := Int.emod_nonneg v (by omega : (2 : Int) ^ n ≠ 0)
  have := Int.emod_lt_of_pos v (by omega : (0 : Int) < 2 ^ n)
  omega
theorem and_one (v : Int) : bits .and .i64 v 1 = v % 2 := by
  have := and_mask v (n := 1) (by decide)
  simpa using this
theorem wrap_facts {b : Int} (h1 : 1 ≤ b) (h2 : b ≤ 62) (v : Int) : ∃ P H M : Int, wrap64 (2 ^ b.toNat) = P ∧ wrap64 (2 ^ (b.toNat - 1)) = H ∧ bits .and .i64 v (P - 1) = M ∧
    2 ≤ P ∧ P ≤ 4611686018427387904 ∧ (P ≤ 2 * H ∧ 2 * H ≤ P) ∧ (0 ≤ M ∧ M < P) ∧ M = v % P ∧ wrapF b v = if M < H then M else M - P := by
  have hb : b.toNat ≤ 62 := by omega
  have hh := pow_half (n := b.toNat) (by omega)
  have hp := pow_pos' (b.toNat - 1)
  refine ⟨2 ^ b.toNat, 2 ^ (b.toNat - 1), v % 2 ^ b.toNat, w64_pow hb, w64_pow (by omega), and_mask v hb, by omega, pow_62 hb, by omega, ?_, rfl, ?_⟩
  · exact ⟨Int.emod_nonneg _ (by omega), Int.emod_lt_of_pos _ (by omega)⟩
  · unfold wrapF
    rw [if_pos (inB_iff.2 ⟨h1, h2⟩), Int.bmod_def]
    have e : ((2 ^ b.toNat : Nat) : Int) = 2 ^ b.toNat := by simp
    rw [e]
    have : ((2 : Int) ^ b.toNat + 1) / 2 = 2 ^ (b.toNat - 1) := by omega
    rw [this]
theorem tmod_facts (v : Int) {P : Int} (h : 2 ≤ P) : ∃ T, v.tmod P = T ∧ (T = v % P ∨ (T < 0 ∧ T + P = v % P)) ∧ -P < T ∧ T < P := by
  refine ⟨v.tmod P, rfl, ?_, ?_, ?_⟩
  · have h1 := Int.tmod_eq_emod_of_nonneg (a := v) (b := P)
    rcases Int.le_total 0 v with h0 | h0
    · exact .inl (h1 h0)
    · have := Int.tmod_eq_emod (a := v) (b := P)
      rw [this]
      have h3 : (P.natAbs : Int) = P := by omega
      have h4 := Int.emod_lt_of_pos v (by omega : 0 < P)
      split
      · left; simp
      · right; omega
  · have := Int.lt_tmod_of_pos v (by omega : 0 < P); omega
  · exact Int.tmod_lt_of_pos v (by omega)
theorem shift_facts {n v : Int} (h1 : 1 ≤ n) (h2 : n ≤ 62) (hv : I64 v) : ∃ P M D C B : Int, wrap64 (2 ^ n.toNat) = P ∧ bits .and .i64 v (P - 1) = M ∧ v / 2 ^ n.toNat = D ∧ v / 2 ^ (n.toNat - 1) = C ∧ bits .and .i64 C 1 = B ∧
    2 ≤ P ∧ P ≤ 4611686018427387904 ∧ (0 ≤ M ∧ M < P) ∧ (-4611686018427387904 ≤ D ∧ D ≤ 4611686018427387904) ∧ (0 ≤ B ∧ B ≤ 1) ∧ (v = P * D + M) ∧
    shiftF v n 1 = D ∧ shiftF v n 2 = D + B ∧ shiftF v n 3 = (if v < 0 ∧ M ≠ 0 then D + 1 else D) ∧ M = v % P ∧ 2 ^ n.toNat = P := by
  obtain ⟨v1, v2⟩ := hv
  have hb : n.toNat ≤ 62 := by omega
  have hh := pow_half (n := n.toNat) (by omega)
  have hp := pow_pos' (n.toNat - 1)
  have hq := pow_62 hb
  have hd := Int.mul_ediv_add_emod v (2 ^ n.toNat)
  have hm1 := Int.emod_nonneg v (by omega : (2 : Int) ^ n.toNat ≠ 0)
  have hm2 := Int.emod_lt_of_pos v (by omega : (0 : Int) < 2 ^ n.toNat)
  have hin : inB n 0 62 = true := inB_iff.2 ⟨by omega, h2⟩
  refine ⟨2 ^ n.toNat, v % 2 ^ n.toNat, v / 2 ^ n.toNat, v / 2 ^ (n.toNat - 1), v / 2 ^ (n.toNat - 1) % 2, w64_pow hb, and_mask v hb, rfl, rfl, and_one _, by omega, hq, ⟨hm1, hm2⟩, ?_, ⟨by omega, by omega⟩, hd.symm, ?_, ?_, ?_, rfl, rfl⟩
  · have hP : (2 : Int) ≤ 2 ^ n.toNat := by omega
    generalize (2 : Int) ^ n.toNat = P at *
    generalize hD : v / P = D at *
    constructor
    · rcases Int.lt_or_le D (-4611686018427387904) with h | h
      · have : P * (D + 1) ≤ 2 * (D + 1) := Int.mul_le_mul_of_nonpos_right hP (by omega)
        rw [Int.mul_add] at this
        omega
      · exact h
    · rcases Int.lt_or_le 4611686018427387904 D with h | h
      · have : 2 * D ≤ P * D := Int.mul_le_mul_of_nonneg_right hP (by omega)
        omega
      · exact h
  · unfold shiftF
    rw [if_pos (by rw [hin]; decide), if_neg (by decide), if_neg (by decide)]
  · unfold shiftF
    rw [if_pos (by rw [hin]; decide), if_pos rfl, if_pos (by omega), show (n - 1).toNat = n.toNat - 1 by omega]
  · unfold shiftF
    rw [if_pos (by rw [hin]; decide), if_neg (by decide), if_pos rfl]
    split <;> omega
theorem shift_zero {v r : Int} (h1 : 1 ≤ r) (h2 : r ≤ 3) : shiftF v 0 r = v := by
  unfold shiftF
  rw [if_pos (by simp [inB]; omega)]
  have : v % 2 ^ (0 : Int).toNat = 0 := by simp
  split
  · simp
  · split
    · rw [if_neg (by omega)]; simp
    · simp
def withinF (v m : Int) : Int := if m < 1 then 0 else v % m
theorem within_facts {m : Int} (h : 1 ≤ m) (v : Int) : ∃ T : Int, v.tmod m = T ∧ (-m < T ∧ T < m) ∧ (T < 0 → withinF v m = T + m) ∧ (0 ≤ T → withinF v m = T) := by
  have h1 := Int.tmod_eq_emod_of_nonneg (a := v) (b := m)
  have h2 := Int.lt_tmod_of_pos v (by omega : 0 < m)
  have h3 := Int.tmod_lt_of_pos v (by omega : 0 < m)
  have h4 := Int.emod_lt_of_pos v (by omega : 0 < m)
  have h5 := Int.emod_nonneg v (by omega : m ≠ 0)
  have key : withinF v m = v % m := by unfold withinF; rw [if_neg (by omega)]
  refine ⟨v.tmod m, rfl, ⟨h2, h3⟩, fun hn => ?_, fun hn => ?_⟩
  · rw [key]
    rcases Int.le_total 0 v with h0 | h0
    · rw [h1 h0] at hn; omega
    · have := Int.tmod_eq_emod (a := v) (b := m)
      have h6 : (m.natAbs : Int) = m := by omega
      split at this <;> omega
  · rw [key]
    have := Int.tmod_eq_emod (a := v) (b := m)
    have h6 : (m.natAbs : Int) = m := by omega
    split at this <;> omega
theorem within_in {m : Int} (h : 1 ≤ m) (v : Int) : 0 ≤ withinF v m ∧ withinF v m < m := by
  have h4 := Int.emod_lt_of_pos v (by omega : 0 < m)
  have h5 := Int.emod_nonneg v (by omega : m ≠ 0)
  unfold withinF
  rw [if_neg (by omega)]
  exact ⟨h5, h4⟩
theorem i64_of_wf {x : Int} (h : (Lit.int .i64 x).wf = true) : I64 x := by
  simp [Lit.wf, IntKind.min, IntKind.max, IntKind.signed, IntKind.bits] at h
  exact ⟨by omega, by omega⟩
theorem shift_down {v n : Int} (h1 : 0 ≤ n) (h2 : n ≤ 62) : shiftF v n 1 = v / 2 ^ n.toNat := by
  unfold shiftF
  rw [if_pos (by rw [inB_iff.2 ⟨h1, h2⟩]; decide), if_neg (by decide), if_neg (by decide)]
theorem mul_bound {x y B C : Int} (hx : -B ≤ x ∧ x ≤ B) (hy : -C ≤ y ∧ y ≤ C) : -(B * C) ≤ x * y ∧ x * y ≤ B * C := by
  have hB : 0 ≤ B := by omega
  have hC : 0 ≤ C := by omega
  have h1 : 0 ≤ (B - x) * (C - y) := Int.mul_nonneg (by omega) (by omega)
  have h2 : 0 ≤ (B + x) * (C + y) := Int.mul_nonneg (by omega) (by omega)
  have h3 : 0 ≤ (B - x) * (C + y) := Int.mul_nonneg (by omega) (by omega)
  have h4 : 0 ≤ (B + x) * (C - y) := Int.mul_nonneg (by omega) (by omega)
  simp only [Int.sub_mul, Int.add_mul, Int.mul_sub, Int.mul_add] at h1 h2 h3 h4
  omega
end Go.Proofs.Ytmdfgidejdiiiaa
end
section
namespace Go.Proofs.Ytmdfgidejdiiiaa
open Go.RowKit
theorem below_drewN {B : Nat} {a w : World} (h : Below B a w) (n : Nat) : Below B a (w.drewN n) := ⟨h.os, h.tape, h.output, h.size, h.block⟩
structure Ext (w : World) where
  to : World
  below : Below w.heap.size w to
instance (w : World) : Nonempty (Ext w) := ⟨⟨w, Below.refl _ _⟩⟩
theorem Ext.cell {w : World} (n : Ext w) (p : Addr) (h : p.block < w.heap.size) : n.to.cell? p = w.cell? p := n.below.cell h
theorem Ext.frozen {w : World} (n : Ext w) (p : Addr) (h : p.block < w.heap.size) : n.to.frozen? p = w.frozen? p := n.below.frozen h
theorem wp_region_ext {P : Program} {id : Nat} {Q : Exit → Act → World → Prop} {a : Act} {w : World} {l : List Oper} (hm : P.follows .mixedOrders = true) (hB : Region.lexB .any l.toArray = true)
    (h : wpQuiet P l.toArray (fun w' => ∃ n : Ext w, w' = n.to) (fun a' => ∀ w', (∃ n : Ext w, w' = n.to) → Q .normal a' w') l a) : (Code.region id l.toArray true).wp P Q a w :=
  wp_region_quiet (C := fun w' => ∃ n : Ext w, w' = n.to) hm hB ⟨⟨{ w with drawn := w.drawn + 1 }, ⟨rfl, rfl, rfl, Nat.le_refl _, fun _ _ => rfl⟩⟩, rfl⟩ (by simpa using h)
theorem ext_call {P : Program} {f : FuncId} {args : Array Value} {w : World} {n : Ext w} {v : Value} {R : Ending → World → Prop} (h : Calls P f args n.to R)
    (hR : ∀ e w', R e w' → e = .returned v ∧ Below n.to.heap.size n.to w') : Calls P f args n.to fun e w'' => e = .returned v ∧ ∃ m : Ext w, w'' = m.to :=
  h.mono fun e w' hr => by
    obtain ⟨h1, h2⟩ := hR e w' hr
    exact ⟨h1, ⟨w', n.below.trans (h2.mono n.below.size)⟩, rfl⟩
theorem ext_same {P : Program} {f : FuncId} {args : Array Value} {w : World} {n : Ext w} {v : Value} (h : Calls P f args n.to fun e w' => e = .returned v ∧ n.to = w') :
    Calls P f args n.to fun e w'' => e = .returned v ∧ ∃ m : Ext w, w'' = m.to := ext_call h fun _ _ h => ⟨h.1, by rw [← h.2]; exact Below.refl _ _⟩
end Go.Proofs.Ytmdfgidejdiiiaa
end
section
namespace Go.Proofs.Ytmdfgidejdiiiaa
open Go.RowKit
theorem block_add (a : Addr) (n : Nat) : (a.add n).block = a.block := by unfold Addr.add; split <;> rfl
theorem add_add (a : Addr) (i j : Nat) : (a.add i).add j = a.add (i + j) := by
  unfold Addr.add
  by_cases hi : i = 0 <;> by_cases hj : j = 0 <;> simp [hi, hj, Nat.add_assoc]
def Row (w : World) (B : Nat) (A : Option Addr) (xs : List Value) : Prop :=
  ∀ (k : Nat) (v : Value), xs[k]? = some v → ∃ ad, A = some ad ∧ ad.block < B ∧ w.cell? (ad.add k) = some v
section
variable {w w' : World} {B B' : Nat} {A : Option Addr} {xs : List Value}
theorem Row.nil : Row w B A [] := fun k v h => by simp at h
theorem Row.keep (h : Row w B A xs) (hb : Below B w w') : Row w' B A xs := fun k v hk => by
  obtain ⟨ad, e, h1, h2⟩ := h k v hk
  exact ⟨ad, e, h1, (hb.cell (by rw [block_add]; exact h1)).trans h2⟩
theorem Row.more (h : Row w B A xs) (hB : B ≤ B') : Row w B' A xs := fun k v hk => by
  obtain ⟨ad, e, h1, h2⟩ := h k v hk
  exact ⟨ad, e, by omega, h2⟩
theorem Row.grow (h : Row w w.heap.size A xs) (hb : Below w.heap.size w w') : Row w' w'.heap.size A xs := (h.keep hb).more hb.size
theorem Row.at_ {k : Nat} (h : Row w B A xs) (hk : k < xs.length) : ∃ ad v, A = some ad ∧ ad.block < B ∧ xs[k]? = some v ∧ w.cell? (ad.add k) = some v := by
  obtain ⟨ad, e, h1, h2⟩ := h k xs[k] (List.getElem?_eq_getElem hk)
  exact ⟨ad, xs[k], e, h1, List.getElem?_eq_getElem hk, h2⟩
theorem Row.of_own {base n c : Nat} {e : TypeId} (h : w.ownsRow base e 1 (.slice A n c) n xs) : Row w w.heap.size A xs := fun k v hk => by
  have h0 := h
  obtain ⟨hl, h2 | ⟨g, cap, cur, hv, hb, hh, hn, hm, hs, ht⟩⟩ := h
  · obtain ⟨_, rfl⟩ := h2
    have : xs = [] := List.eq_nil_of_length_eq_zero (by omega)
    subst this; simp at hk
  · injection hv with hA
    subst hA
    exact ⟨_, rfl, (h0.lt g rfl).2, h0.cells (g := g) rfl k v hk⟩
end
theorem own_form {w : World} {base n size : Nat} {e : TypeId} {v : Value} {xs : List Value} (h : w.ownsRow base e size v n xs) : ∃ A c, v = .slice A n c ∧ n ≤ c := by
  obtain ⟨_, ⟨rfl, rfl⟩ | ⟨g, cap, cur, rfl, _, _, hn, _⟩⟩ := h
  · exact ⟨none, 0, rfl, Nat.le_refl _⟩
  · exact ⟨_, cap, rfl, hn⟩
def Ints (w : World) (A : Option Addr) (l : List Int) : Prop := Row w w.heap.size A (l.map (Value.int .i64)) ∧ ∀ x ∈ l, I64 x
section
variable {w w' : World} {A : Option Addr} {l : List Int}
theorem Ints.nil : Ints w A [] := ⟨Row.nil, by simp⟩
theorem Ints.grow (h : Ints w A l) (hb : Below w.heap.size w w') : Ints w' A l := ⟨h.1.grow hb, h.2⟩
theorem Ints.at_ {k : Nat} (h : Ints w A l) (hk : k < l.length) : ∃ ad x, A = some ad ∧ ad.block < w.heap.size ∧ l[k]? = some x ∧ w.cell? (ad.add k) = some (.int .i64 x) ∧ -9223372036854775808 ≤ x ∧ x ≤ 9223372036854775807 := by
  obtain ⟨ad, v, e, h1, h2, h3⟩ := h.1.at_ (k := k) (by simpa using hk)
  have hx : l[k]? = some l[k] := List.getElem?_eq_getElem hk
  rw [List.getElem?_map, hx] at h2
  simp only [Option.map_some, Option.some.injEq] at h2
  subst h2
  obtain ⟨i1, i2⟩ := h.2 l[k] (List.getElem_mem hk)
  exact ⟨ad, l[k], e, h1, hx, h3, i1, i2⟩
end
theorem take_succ_all {α : Type} {l : List α} {k : Nat} {x : α} (h : l[k]? = some x) (p : α → Bool) : (l.take (k + 1)).all p = ((l.take k).all p && p x) := by
  rw [List.take_add_one, h]; simp
theorem all_no {α : Type} {l : List α} {k : Nat} {x : α} (h : l[k]? = some x) {p : α → Bool} (hp : p x = false) : l.all p = false := by
  rw [List.all_eq_false]; exact ⟨x, List.mem_of_getElem? h, by simp [hp]⟩
theorem take_snoc' {α : Type} {l : List α} {k : Nat} {x : α} (h : l[k]? = some x) : l.take (k + 1) = l.take k ++ [x] := by
  rw [List.take_add_one, h]; simp
end Go.Proofs.Ytmdfgidejdiiiaa
end
section
namespace Go.Proofs.Ytmdfgidejdiiiaa
open Go.RowKit
theorem wpList_app1 {P : Program} {ops : Array Oper} {rest : List Oper} {o : Oper} {a : Act} {Q : Exit → Act → World → Prop} (W : World) (hgd : o.guard = none) (s x : Operand) (t : TypeId)
    (ho : o.op = .call { callee := .builtin .append, args := #[s, x], argTypes := #[t, t] })
    (base : Nat) (e : TypeId) (i : TypeInfo) (z : Value) (bytes : Nat) (ht : P.underlying t = some (.slice e)) (hi : P.info? e = some i) (hz : i.zero = some z)
    (hsize : i.size = 1) (hby : i.bytes = bytes) (hzs : z.cells.size = 1) (hbl : bytes ≤ 1000000)
    {v u : Value} {n : Nat} {xs : List Value} (hown : W.ownsRow base e 1 v n xs) (hs : a.eval s = v)
    (hx : a.eval x = .slice (some ⟨W.heap.size, 0, none⟩) 1 1) (h1 : u.oneCell' = true) (hn : n < 100000000) (hbase : base ≤ W.heap.size)
    (h : ∀ v' w', w'.ownsRow base e 1 v' (n + 1) (xs ++ [u]) → Below base W w' → wpList P ops Q rest (a.put o.dst v') w') :
    wpList P ops Q (o :: rest) a (W.alloc (.cells #[u] e)) := by
  refine wpList_append_own _ hgd s x t ho base e i z 1 bytes ht hi hz hsize hby hzs (by decide) v n xs hs (hown.alloc _) ⟨W.heap.size, 0, none⟩ 1 1 [u] hx rfl ?_ ?_ ?_ ?_ ?_ ?_
  · intro j q hj
    match j, hj with
    | 0, hj => simp at hj; subst hj; simp [Addr.add]
  · intro q hq; simp at hq; subst hq; exact h1
  · unfold maxLen; omega
  · have : (n + 1) * bytes ≤ 100000000 * 1000000 := Nat.mul_le_mul (by omega) hbl
    omega
  · simp; omega
  · intro v' w' ho' hg' _
    refine h v' w' ho' ?_
    have hb := (Below.refl base W).alloc hbase (.cells #[u] e)
    exact hb.grown hg' (by simp; omega) (fun k hk => (hown.lt k hk).1)
theorem own_grow {w w' : World} {base n size : Nat} {e : TypeId} {v : Value} {xs : List Value} (h : w.ownsRow base e size v n xs) (hb : Below w.heap.size w w') : w'.ownsRow base e size v n xs := by
  obtain ⟨h1, h2 | ⟨g, cap, cur, hv, hg, hh, r⟩⟩ := h
  · exact ⟨h1, .inl h2⟩
  · have hlt : g < w.heap.size := by
      rcases Nat.lt_or_ge g w.heap.size with h | h
      · exact h
      · rw [Array.getElem?_eq_none h] at hh; cases hh
    exact ⟨h1, .inr ⟨g, cap, cur, hv, hg, (hb.block g hlt).trans hh, r⟩⟩
theorem own_base {w : World} {base base' n size : Nat} {e : TypeId} {v : Value} {xs : List Value} (h : w.ownsRow base e size v n xs) (hb : base' ≤ base) : w.ownsRow base' e size v n xs := by
  obtain ⟨h1, h2 | ⟨g, cap, cur, hv, hg, r⟩⟩ := h
  · exact ⟨h1, .inl h2⟩
  · exact ⟨h1, .inr ⟨g, cap, cur, hv, by omega, r⟩⟩
theorem info_int : (Try.prog.info? 3).map (fun i => (i.zero, i.size, i.bytes)) = some (some (.int .i64 0), 1, 8) := by kernel_rfl
def Own (base : Nat) (w : World) (v : Value) (l : List Int) : Prop := w.ownsRow base 3 1 v l.length (l.map (Value.int .i64)) ∧ ∀ x ∈ l, I64 x
theorem Own.nil {base : Nat} {w : World} : Own base w (.slice none 0 0) [] := ⟨World.ownsRow_nil _ _ _ _, by simp⟩
theorem Own.form {base : Nat} {w : World} {v : Value} {l : List Int} (h : Own base w v l) : ∃ A c, v = .slice A l.length c ∧ l.length ≤ c ∧ Ints w A l := by
  obtain ⟨A, c, rfl, hc⟩ := own_form h.1
  exact ⟨A, c, rfl, hc, Row.of_own h.1, h.2⟩
theorem Own.grow {base : Nat} {w w' : World} {v : Value} {l : List Int} (h : Own base w v l) (hb : Below w.heap.size w w') : Own base w' v l := ⟨own_grow h.1 hb, h.2⟩
theorem Own.base {base base' : Nat} {w : World} {v : Value} {l : List Int} (h : Own base w v l) (hb : base' ≤ base) : Own base' w v l := ⟨own_base h.1 hb, h.2⟩
theorem app_int {ops : Array Oper} {rest : List Oper} {o : Oper} {a : Act} {Q : Exit → Act → World → Prop} (W : World) (hgd : o.guard = none) (s x : Operand)
    (ho : o.op = .call { callee := .builtin .append, args := #[s, x], argTypes := #[33, 33] }) (base : Nat) {v : Value} {l : List Int} {y : Int} (hown : Own base W v l) (hs : a.eval s = v)
    (hx : a.eval x = .slice (some ⟨W.heap.size, 0, none⟩) 1 1) (hn : l.length < 100000000) (hbase : base ≤ W.heap.size) (hy : I64 y)
    (h : ∀ v' w', Own base w' v' (l ++ [y]) → Below base W w' → wpList Try.prog ops Q rest (a.put o.dst v') w') :
    wpList Try.prog ops Q (o :: rest) a (W.alloc (.cells #[.int .i64 y] 3)) := by
  obtain ⟨i0, hi, hz0, hz1, hz2⟩ := info_parts info_int
  refine wpList_app1 W hgd s x 33 ho base 3 i0 (.int .i64 0) 8 Try.underlying33 hi hz0 hz1 hz2 rfl (by decide) hown.1 hs hx rfl hn hbase fun v' w' h1 h2 => h v' w' ⟨?_, ?_⟩ h2
  · simpa using h1
  · intro q hq
    rcases List.mem_append.1 hq with hq | hq
    · exact hown.2 q hq
    · simp at hq; subst hq; exact hy
end Go.Proofs.Ytmdfgidejdiiiaa
end
section
namespace Go.Proofs.Ytmdfgidejdiiiaa
open Go.RowKit
theorem Own.cell {base : Nat} {w : World} {g n c : Nat} {l : List Int} (h : Own base w (.slice (some ⟨g, 0, none⟩) n c) l) {k : Nat} {y : Int} (hk : l[k]? = some y) : w.cell? ⟨g, k, none⟩ = some (.int .i64 y) := by
  obtain ⟨A, c', e, _⟩ := own_form h.1
  injection e with _ e2
  subst e2
  have hkl := (List.getElem?_eq_some_iff.1 hk).1
  rw [h.1.cellAt k (by omega), List.getElem?_map, hk]; rfl
theorem Own.free {base : Nat} {w : World} {g n c : Nat} {l : List Int} (h : Own base w (.slice (some ⟨g, 0, none⟩) n c) l) (k : Nat) : w.frozen? ⟨g, k, none⟩ = false := by
  obtain ⟨A, c', e, _⟩ := own_form h.1
  injection e with _ e2
  subst e2
  exact h.1.frozenAt k
theorem Own.block {base : Nat} {w : World} {g n c : Nat} {l : List Int} (h : Own base w (.slice (some ⟨g, 0, none⟩) n c) l) : base ≤ g ∧ g < w.heap.size := h.1.lt g rfl
theorem Own.set {base : Nat} {w : World} {g n c : Nat} {l : List Int} (h : Own base w (.slice (some ⟨g, 0, none⟩) n c) l) (k : Nat) {y : Int} (hy : I64 y) :
    Own base (w.setCell ⟨g, k, none⟩ (.int .i64 y)) (.slice (some ⟨g, 0, none⟩) n c) (l.set k y) := by
  obtain ⟨A, c', e, _⟩ := own_form h.1
  injection e with _ e2
  subst e2
  have := (h.1.stored k (.int .i64 y)).1
  refine ⟨by rw [List.length_set, List.map_set]; exact this, fun q hq => ?_⟩
  rcases List.mem_or_eq_of_mem_set hq with hq | hq
  · exact h.2 q hq
  · rw [hq]; exact hy
theorem below_set {base : Nat} {a w : World} {g k : Nat} {u : Value} (h : Below base a w) (hg : base ≤ g) : Below base a (w.setCell ⟨g, k, none⟩ u) := h.setCell hg u
theorem zeros_cells (n : Nat) : (madeCells (Value.int .i64 0).cells (n * 1)).toList = (List.replicate n (0 : Int)).map (Value.int .i64) := by
  apply List.ext_getElem?
  intro k
  simp only [madeCells, Value.cells, Array.toList_map, Array.toList_range, List.getElem?_map, List.getElem?_replicate, Nat.mul_one]
  rcases Nat.lt_or_ge k n with h | h
  · rw [List.getElem?_range h]; simp [h, Nat.mod_one]
  · rw [List.getElem?_eq_none (by simpa using h)]; simp; omega
theorem mk_int {ops : Array Oper} {rest : List Oper} {o : Oper} {a : Act} {Q : Exit → Act → World → Prop} {w : World} (hg : o.guard = none) (s c : Operand) (hop : o.op = Op.makeSlice 33 s c)
    (base n : Nat) {N : Int} (hs : a.eval s = .int .i64 N) (hc : a.eval c = .int .i64 N) (hN : N = (n : Int)) (hn : n ≤ 100000000) (hb : base ≤ w.heap.size)
    (h : ∀ w', Own base w' (.slice (some ⟨w.heap.size, 0, none⟩) n n) (List.replicate n 0) → Below w.heap.size w w' → wpList Try.prog ops Q rest (a.put o.dst (.slice (some ⟨w.heap.size, 0, none⟩) n n)) w') :
    wpList Try.prog ops Q (o :: rest) a w := by
  subst hN
  obtain ⟨i0, hi, hz0, hz1, hz2⟩ := info_parts info_int
  refine wpList_make_full w hg s c 33 hop base 3 i0 (.int .i64 0) 1 Try.underlying33 hi hz0 hz1 .i64 .i64 n n n hs hc rfl rfl (by rw [hz2]; omega) (by unfold maxLen; omega) hb fun w' h1 h2 => h w' ⟨?_, ?_⟩ ?_
  · rw [List.length_replicate, ← zeros_cells]; exact h1
  · intro q hq; rw [List.eq_of_mem_replicate hq]; exact ⟨by decide, by decide⟩
  · exact (Below.refl _ _).grown h2 (Nat.le_refl _) (by intro k hk; cases hk)
def RetInts1 (w : World) (l : List Int) (e : Ending) (w' : World) : Prop := ∃ v, e = .returned v ∧ Own w.heap.size w' v l ∧ Below w.heap.size w w'
theorem RetInts1.mk {w w' : World} {l : List Int} {v : Value} (ho : Own w.heap.size w' v l) (hb : Below w.heap.size w w') : RetInts1 w l (.returned v) w' := ⟨v, rfl, ho, hb⟩
end Go.Proofs.Ytmdfgidejdiiiaa
end
section
namespace Go.Proofs.Ytmdfgidejdiiiaa
def nv : List Int → Int
  | [] => 0
  | d :: l => d + 4294967296 * nv l
def Dig (l : List Int) : Prop := ∀ x ∈ l, 0 ≤ x ∧ x < 4294967296
def bp (n : Nat) : Int := 4294967296 ^ n
theorem bp_zero : bp 0 = 1 := rfl
theorem bp_succ (n : Nat) : bp (n + 1) = 4294967296 * bp n := by unfold bp; rw [Int.pow_succ, Int.mul_comm]
theorem bp_one : bp 1 = 4294967296 := by rw [bp_succ, bp_zero]; rfl
theorem bp_add (m n : Nat) : bp (m + n) = bp m * bp n := by unfold bp; exact Int.pow_add _ _ _
theorem bp_pos : ∀ n, 0 < bp n
  | 0 => by decide
  | n + 1 => by rw [bp_succ]; have := bp_pos n; omega
theorem bp_le : ∀ {m n : Nat}, m ≤ n → bp m ≤ bp n := fun {m n} h => by
  obtain ⟨k, rfl⟩ : ∃ k, n = m + k := ⟨n - m, by omega⟩
  rw [bp_add]
  have h1 := bp_pos m
  have h2 := bp_pos k
  have := Int.mul_le_mul_of_nonneg_left (show 1 ≤ bp k by omega) (show 0 ≤ bp m by omega)
  omega
theorem Dig.nil : Dig [] := fun _ h => by simp at h
theorem Dig.cons {d : Int} {l : List Int} (h : Dig (d :: l)) : (0 ≤ d ∧ d < 4294967296) ∧ Dig l := ⟨h d (by simp), fun x hx => h x (by simp [hx])⟩
theorem Dig.app {a b : List Int} (h1 : Dig a) (h2 : Dig b) : Dig (a ++ b) := fun x hx => by
  rcases List.mem_append.1 hx with h | h
  · exact h1 x h
  · exact h2 x h
theorem Dig.one {x : Int} (h : 0 ≤ x ∧ x < 4294967296) : Dig [x] := fun y hy => by
  have := List.mem_singleton.1 hy
  subst this; exact h
theorem Dig.take {l : List Int} (h : Dig l) (k : Nat) : Dig (l.take k) := fun x hx => h x (List.mem_of_mem_take hx)
theorem Dig.drop {l : List Int} (h : Dig l) (k : Nat) : Dig (l.drop k) := fun x hx => h x (List.mem_of_mem_drop hx)
theorem Dig.set {l : List Int} (h : Dig l) (k : Nat) {y : Int} (hy : 0 ≤ y ∧ y < 4294967296) : Dig (l.set k y) := fun x hx => by
  rcases List.mem_or_eq_of_mem_set hx with h1 | h1
  · exact h x h1
  · rw [h1]; exact hy
theorem Dig.rep (n : Nat) : Dig (List.replicate n 0) := fun x hx => by
  have := List.eq_of_mem_replicate hx
  omega
theorem Dig.at_ {l : List Int} (h : Dig l) {k : Nat} {x : Int} (hk : l[k]? = some x) : 0 ≤ x ∧ x < 4294967296 := h x (List.mem_of_getElem? hk)
theorem nv_low : ∀ {l : List Int}, Dig l → 0 ≤ nv l
  | [], _ => Int.le_refl _
  | d :: l, h => by
    have h1 := nv_low h.cons.2
    have := h.cons.1
    simp only [nv]; omega
theorem nv_lt : ∀ {l : List Int}, Dig l → nv l < bp l.length
  | [], _ => by decide
  | d :: l, h => by
    have h1 := nv_lt h.cons.2
    have := h.cons.1
    rw [List.length_cons, bp_succ]
    simp only [nv]; omega
theorem nv_app : ∀ (a b : List Int), nv (a ++ b) = nv a + bp a.length * nv b
  | [], b => by simp only [nv, List.nil_append, List.length_nil, bp_zero]; omega
  | d :: a, b => by
    rw [List.cons_append, List.length_cons, bp_succ]
    simp only [nv]
    rw [nv_app a b, Int.mul_assoc]
    omega
theorem nv_one (x : Int) : nv [x] = x := by simp [nv]
theorem nv_take {l : List Int} {k : Nat} {x : Int} (h : l[k]? = some x) : nv (l.take (k + 1)) = nv (l.take k) + bp k * x := by
  have hk : k < l.length := (List.getElem?_eq_some_iff.1 h).1
  have e : l.take (k + 1) = l.take k ++ [x] := by rw [List.take_add_one, h]; simp
  rw [e, nv_app, nv_one, List.length_take, Nat.min_eq_left (by omega)]
theorem nv_drop {l : List Int} {k : Nat} {x : Int} (h : l[k]? = some x) : nv (l.drop k) = x + 4294967296 * nv (l.drop (k + 1)) := by
  obtain ⟨hk, e⟩ := List.getElem?_eq_some_iff.1 h
  rw [List.drop_eq_getElem_cons hk, e]
  rfl
theorem nv_split (l : List Int) (k : Nat) (hk : k ≤ l.length) : nv l = nv (l.take k) + bp k * nv (l.drop k) := by
  have := nv_app (l.take k) (l.drop k)
  rw [List.take_append_drop, List.length_take, Nat.min_eq_left hk] at this
  exact this
theorem nv_set : ∀ {l : List Int} {k : Nat} {x : Int}, l[k]? = some x → ∀ y, nv (l.set k y) = nv l + bp k * (y - x)
  | d :: l, 0, x, h, y => by
    simp only [List.getElem?_cons_zero, Option.some.injEq] at h
    subst h
    rw [List.set_cons_zero, bp_zero]
    simp only [nv]; omega
  | d :: l, k + 1, x, h, y => by
    simp only [List.getElem?_cons_succ] at h
    rw [List.set_cons_succ, bp_succ, Int.mul_assoc]
    simp only [nv]
    rw [nv_set h y]; omega
theorem nv_rep : ∀ n, nv (List.replicate n 0) = 0
  | 0 => rfl
  | n + 1 => by rw [List.replicate_succ]; simp only [nv]; rw [nv_rep n]; rfl
theorem nv_zeros : ∀ {l : List Int}, (∀ x ∈ l, x = 0) → nv l = 0
  | [], _ => rfl
  | d :: l, h => by
    simp only [nv]
    rw [h d (by simp), nv_zeros fun x hx => h x (by simp [hx])]; rfl
def Nrm (l : List Int) : Prop := ∀ k x, k + 1 = l.length → l[k]? = some x → x ≠ 0
theorem Nrm.nil : Nrm [] := fun k x h => by simp at h
theorem nrm_le {l : List Int} (hd : Dig l) (hn : Nrm l) (h0 : l ≠ []) : bp (l.length - 1) ≤ nv l := by
  have hl : 0 < l.length := List.length_pos_iff.2 h0
  obtain ⟨x, hx⟩ : ∃ x, l[l.length - 1]? = some x := ⟨_, List.getElem?_eq_getElem (by omega)⟩
  have h1 := hn (l.length - 1) x (by omega) hx
  have h2 := hd.at_ hx
  have h3 := nv_take hx
  rw [show l.length - 1 + 1 = l.length by omega, List.take_length] at h3
  have h4 := nv_low (hd.take (l.length - 1))
  have h5 := bp_pos (l.length - 1)
  have := Int.mul_le_mul_of_nonneg_left (show 1 ≤ x by omega) (show 0 ≤ bp (l.length - 1) by omega)
  omega
theorem nrm_zero {l : List Int} (hd : Dig l) (hn : Nrm l) : nv l = 0 ↔ l = [] := by
  constructor
  · intro h
    rcases Classical.em (l = []) with h0 | h0
    · exact h0
    · have := nrm_le hd hn h0
      have := bp_pos (l.length - 1)
      omega
  · rintro rfl; rfl
theorem nrm_lt {a b : List Int} (ha : Dig a) (hb : Dig b) (hn : Nrm b) (h : a.length < b.length) : nv a < nv b := by
  have h1 := nv_lt ha
  have h2 := nrm_le hb hn (fun e => by rw [e] at h; simp at h)
  have := bp_le (show a.length ≤ b.length - 1 by omega)
  omega
def cmpI (x y : Int) : Int := if x < y then -1 else if x = y then 0 else 1
theorem cmpI_add (x y z : Int) : cmpI (x + z) (y + z) = cmpI x y := by unfold cmpI; repeat' split <;> try omega
theorem cmp_at {a b : List Int} {k : Nat} {x y : Int} (ha : Dig a) (hb : Dig b) (hx : a[k]? = some x) (hy : b[k]? = some y) (hd : a.drop (k + 1) = b.drop (k + 1)) (hne : x ≠ y) : cmpI (nv a) (nv b) = cmpI x y := by
  have l1 : k < a.length := (List.getElem?_eq_some_iff.1 hx).1
  have l2 : k < b.length := (List.getElem?_eq_some_iff.1 hy).1
  have e1 := nv_split a (k + 1) (by omega)
  have e2 := nv_split b (k + 1) (by omega)
  rw [← hd] at e2
  rw [e1, e2, cmpI_add, nv_take hx, nv_take hy]
  have h1 := nv_lt (ha.take k)
  have h2 := nv_lt (hb.take k)
  have h3 := nv_low (ha.take k)
  have h4 := nv_low (hb.take k)
  rw [List.length_take, Nat.min_eq_left (by omega)] at h1 h2
  have hp := bp_pos k
  rcases Int.lt_or_gt_of_ne hne with h | h
  · have := Int.mul_le_mul_of_nonneg_left (show x + 1 ≤ y by omega) (show 0 ≤ bp k by omega)
    rw [Int.mul_add] at this
    unfold cmpI
    rw [if_pos (by omega), if_pos h]
  · have := Int.mul_le_mul_of_nonneg_left (show y + 1 ≤ x by omega) (show 0 ≤ bp k by omega)
    rw [Int.mul_add] at this
    unfold cmpI
    rw [if_neg (by omega), if_neg (by omega), if_neg (by omega), if_neg (by omega)]
theorem cmp_len {a b : List Int} (ha : Dig a) (hb : Dig b) (na : Nrm a) (nb : Nrm b) (h : a.length ≠ b.length) : cmpI (nv a) (nv b) = cmpI a.length b.length := by
  rcases Nat.lt_or_gt_of_ne h with h | h
  · have := nrm_lt ha hb nb h
    unfold cmpI
    rw [if_pos this, if_pos (by omega)]
  · have := nrm_lt hb ha na h
    unfold cmpI
    rw [if_neg (by omega), if_neg (by omega), if_neg (by omega), if_neg (by omega)]
structure CutN (l : List Int) (n : Nat) : Prop where
  le : n ≤ l.length
  zero : ∀ x ∈ l.drop n, x = 0
  last : ∀ k x, k + 1 = n → l[k]? = some x → x ≠ 0
theorem CutN.nv {l : List Int} {n : Nat} (h : CutN l n) : nv (l.take n) = nv l := by
  rw [nv_split l n h.le, nv_zeros h.zero]; omega
theorem CutN.nrm {l : List Int} {n : Nat} (h : CutN l n) : Nrm (l.take n) := fun k x hk hx => by
  rw [List.length_take, Nat.min_eq_left h.le] at hk
  rw [List.getElem?_take, if_pos (by omega)] at hx
  exact h.last k x hk hx
theorem CutN.len {l : List Int} {n : Nat} (h : CutN l n) : (l.take n).length = n := by rw [List.length_take, Nat.min_eq_left h.le]
theorem cut_step {l : List Int} {n : Nat} (hn : n + 1 ≤ l.length) (h : ∀ x ∈ l.drop (n + 1), x = 0) (hx : l[n]? = some 0) : ∀ x ∈ l.drop n, x = 0 := by
  obtain ⟨hk, e⟩ := List.getElem?_eq_some_iff.1 hx
  rw [List.drop_eq_getElem_cons hk, e]
  intro x hm
  rcases List.mem_cons.1 hm with h1 | h1
  · exact h1
  · exact h x h1
end Go.Proofs.Ytmdfgidejdiiiaa
end
