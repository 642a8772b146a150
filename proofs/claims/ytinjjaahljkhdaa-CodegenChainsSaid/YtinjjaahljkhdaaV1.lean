/- The walks of around and change of package bank. -/
import Derived.Test.YtinjjaahljkhdaaPq
import Derived.Test.YtinjjaahljkhdaaQ
import Derived.Test.YtinjjaahljkhdaaO
import Derived.Test.YtinjjaahljkhdaaFz
import Derived.Deep.RegionHeld3
import Derived.Deep.RegionLaw
import Derived.Maps.AppendAt
namespace Go.Proofs.Ytinjjaahljkhdaa
open Go.RowKit

/-! ### Words for memory: one block is written -/
theorem grown_refl (w : World) (r : Option Nat) : w.grownBy w r := ⟨rfl, rfl, rfl, Nat.le_refl _, fun _ _ _ => rfl⟩
theorem grown_drew {a w : World} {r : Option Nat} (h : a.grownBy w r) : a.grownBy w.drew r := ⟨h.os, h.tape, h.output, h.size, h.block⟩
theorem grown_below {a w w' : World} {r : Option Nat} (h : a.grownBy w r) (hb : Below w.heap.size w w') : a.grownBy w' r :=
  ⟨hb.os.trans h.os, hb.tape.trans h.tape, hb.output.trans h.output, Nat.le_trans h.size hb.size, fun k hk hr => (hb.block k (Nat.lt_of_lt_of_le hk h.size)).trans (h.block k hk hr)⟩
theorem grown_set {a w : World} {g k : Nat} {u : Value} (h : a.grownBy w (some g)) : a.grownBy (w.setCell ⟨g, k, none⟩ u) (some g) :=
  h.trans ⟨rfl, rfl, rfl, by simp [World.setCell], fun i _ hr => Below.heap_setCell w _ u i (by show i ≠ g; intro e; exact hr (by rw [e]))⟩
theorem grown_to {w a w' : World} {g : Nat} (h0 : Below w.heap.size w a) (h : a.grownBy w' (some g)) (hg : w.heap.size ≤ g) : Below w.heap.size w w' :=
  h0.trans ⟨h.os, h.tape, h.output, h.size, fun k hk => h.block k (Nat.lt_of_lt_of_le hk h0.size) (by intro e; injection e with e; omega)⟩
theorem Ints.kept {w w' : World} {A : Option Addr} {l : List Int} {r : Option Nat} (h : Ints w A l) (hg : w.grownBy w' r) (hne : l ≠ [] → ∀ ad, A = some ad → some ad.block ≠ r) : Ints w' A l := by
  refine ⟨fun k v hk => ?_, h.2⟩
  obtain ⟨ad, e, h1, h2⟩ := h.1 k v hk
  exact ⟨ad, e, Nat.lt_of_lt_of_le h1 hg.size, hg.cell h2 (by rw [block_add]; exact hne (by intro hc; rw [hc] at hk; simp at hk) ad e)⟩
theorem Ints.block {w : World} {A : Option Addr} {l : List Int} (h : Ints w A l) (hl : l ≠ []) {ad : Addr} (e : A = some ad) : ad.block < w.heap.size := by
  obtain ⟨ad', x, e', hb, _⟩ := h.at_ (k := 0) (List.length_pos_iff.2 hl)
  rw [e] at e'; injection e' with e'; rw [e']; exact hb
theorem boxK {a w' : World} {g k : Nat} {v : Value} (h : a.grownBy w' (some g)) (hc : a.cell? ⟨k, 3, none⟩ = some v) (hne : k ≠ g) : w'.cell? ⟨k, 3, none⟩ = some v := h.cell hc (by intro e; injection e with e; exact hne e)

/-- A step is permitted. -/
def LftOk (s : Lft) : Prop := s.2.2.1.length ≤ 8 ∧ 0 ≤ s.2.2.2 ∧ s.2.2.2 ≤ 20 ∧ -8 ≤ s.2.1 ∧ s.2.1 ≤ 8 ∧ ∀ x ∈ s.2.2.1, -4096 ≤ x ∧ x ≤ 4096
theorem chS_bound {c o : List Int} {st : Int} {n : Nat} (hc : ∀ x ∈ c, -4096 ≤ x ∧ x ≤ 4096) (ho : W32 o) : ∀ k : Nat, -(8796093022208 * (k : Int)) ≤ chS c st o n k ∧ chS c st o n k ≤ 8796093022208 * (k : Int) := by
  intro k
  induction k with
  | zero => simp [chS]
  | succ k ih =>
    have h1 : -4096 ≤ el c k ∧ el c k ≤ 4096 := el_bound (by decide) hc k
    have h2 := w32_el ho (((n : Int) + st + k) % (o.length : Int)).toNat
    have := mul_bound (x := el c k) (y := el o (((n : Int) + st + k) % (o.length : Int)).toNat) (B := 4096) (C := 2147483648) h1 ⟨h2.1, by omega⟩
    unfold chS
    omega
theorem step_bound {s sh : Int} (hs : -70368744177664 ≤ s ∧ s ≤ 70368744177664) (h0 : 0 ≤ sh) (h1 : sh ≤ 20) : -70368744177664 ≤ shiftF s sh 1 ∧ shiftF s sh 1 ≤ 70368744177664 := by
  rw [shift_down h0 (by omega)]
  have hp := pow_pos' sh.toNat
  generalize (2 : Int) ^ sh.toNat = P at *
  constructor
  · have : -70368744177664 * P ≤ s := by
      have : (70368744177664 : Int) * 1 ≤ 70368744177664 * P := Int.mul_le_mul_of_nonneg_left hp (by decide)
      rw [Int.neg_mul]; omega
    exact (Int.le_ediv_iff_mul_le (by omega)).2 this
  · rcases Int.lt_or_le s 0 with h | h
    · have := Int.ediv_neg_of_neg_of_pos h (by omega : 0 < P); omega
    · have := Int.ediv_le_self P h; omega
end Go.Proofs.Ytinjjaahljkhdaa
