/- The walk of Synthesise of package bank. -/
import Derived.Test.YtinjjaahljkhdaaV6
namespace Go.Proofs.Ytinjjaahljkhdaa
open Go.RowKit

def syE (ls : List Lft) (a b : List Int) : Int := needV (needV (needV (needV 0 (lftsB ls) 2) ((a.length : Int) == (b.length : Int)) 1) (decide (a.length + b.length ≤ 4096)) 4) (a.all wB && b.all wB) 17
def syX (ls : List Lft) (a b : List Int) : List Int := if syE ls a b = 0 then synthF ls a b else []
theorem syE_zero {ls : List Lft} {a b : List Int} (h : syE ls a b = 0) : lftsB ls = true ∧ a.length = b.length ∧ a.length + b.length ≤ 4096 ∧ W32 a ∧ W32 b := by
  unfold syE at h
  obtain ⟨h, h4⟩ := need_zero (by decide) h
  obtain ⟨h, h3⟩ := need_zero (by decide) h
  obtain ⟨h, h2⟩ := need_zero (by decide) h
  obtain ⟨_, h1⟩ := need_zero (by decide) h
  rw [Bool.and_eq_true] at h4
  refine ⟨h1, ?_, of_decide_eq_true h3, wB_iff.1 h4.1, wB_iff.1 h4.2⟩
  rw [beq_iff_eq] at h2
  omega
theorem IntsFar.two {w : World} {q : Nat} {A B : Option Addr} {a b : List Int} {c d : Nat} {t : TypeId} (h : Ints w A a) (k : Ints w B b) (hq : q < w.heap.size) (ha : a ≠ [] → ∀ p, A = some p → p.block ≠ q) (hb : b ≠ [] → ∀ p, B = some p → p.block ≠ q) :
    IntsFar (w.alloc (.cells #[.slice A a.length c, .slice B b.length d] t)) q (some ⟨w.heap.size, 0, none⟩) [a, b] := fun n l' hk => by
  match n, hk with
  | 0, hk =>
    simp at hk
    subst hk
    exact ⟨_, A, c, rfl, by show w.heap.size ≠ q; omega, by simp [Addr.add, go_sem], h.grow ((Below.refl _ _).alloc (Nat.le_refl _) _), ha⟩
  | 1, hk =>
    simp at hk
    subst hk
    exact ⟨_, B, d, rfl, by show w.heap.size ≠ q; omega, by simp [Addr.add, go_sem], k.grow ((Below.refl _ _).alloc (Nat.le_refl _) _), hb⟩
end Go.Proofs.Ytinjjaahljkhdaa
