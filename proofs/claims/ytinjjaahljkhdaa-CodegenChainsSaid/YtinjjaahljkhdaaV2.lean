/- Slices of steps; the walk of Valid of package bank. -/
import Derived.Test.YtinjjaahljkhdaaV1
namespace Go.Proofs.Ytinjjaahljkhdaa
open Go.RowKit

/-- A slice of steps that reads as the list. -/
def Lifts (w : World) (A : Option Addr) (ls : List Lft) : Prop :=
  ∀ k s, ls[k]? = some s → ∃ ad C c, A = some ad ∧ ad.block < w.heap.size ∧ w.cell? (ad.add (k * 4)) = some (.bool s.1) ∧ w.cell? ⟨(ad.add (k * 4)).block, (ad.add (k * 4)).off + 1, none⟩ = some (.int .i64 s.2.1) ∧
    w.cell? ⟨(ad.add (k * 4)).block, (ad.add (k * 4)).off + 2, none⟩ = some (.slice C s.2.2.1.length c) ∧ w.cell? ⟨(ad.add (k * 4)).block, (ad.add (k * 4)).off + 3, none⟩ = some (.int .i64 s.2.2.2) ∧ Ints w C s.2.2.1 ∧ I64 s.2.1 ∧ I64 s.2.2.2
theorem Lifts.nil {w : World} {A : Option Addr} : Lifts w A [] := fun k s h => by simp at h
theorem Lifts.grow {w w' : World} {A : Option Addr} {ls : List Lft} (h : Lifts w A ls) (hb : Below w.heap.size w w') : Lifts w' A ls := fun k s hk => by
  obtain ⟨ad, C, c, e, h1, c0, c1, c2, c3, hi, i1, i2⟩ := h k s hk
  exact ⟨ad, C, c, e, Nat.lt_of_lt_of_le h1 hb.size, (hb.cell (by rw [block_add]; exact h1)).trans c0, (hb.cell (by show (ad.add _).block < _; rw [block_add]; exact h1)).trans c1, (hb.cell (by show (ad.add _).block < _; rw [block_add]; exact h1)).trans c2, (hb.cell (by show (ad.add _).block < _; rw [block_add]; exact h1)).trans c3, hi.grow hb, i1, i2⟩
/-- A coefficient, a step, a list of steps is permitted. -/
def cfB (x : Int) : Bool := inB x (-4096) 4096
def headB (s : Lft) : Bool := decide (s.2.2.1.length ≤ 8) && (inB s.2.2.2 0 20 && inB s.2.1 (-8) 8)
def lftB (s : Lft) : Bool := headB s && s.2.2.1.all cfB
def lftsB (ls : List Lft) : Bool := decide (ls.length ≤ 12) && ls.all lftB
theorem lftB_ok {s : Lft} (h : lftB s = true) : LftOk s := by
  unfold lftB headB at h
  simp only [Bool.and_eq_true, decide_eq_true_eq, inB_iff] at h
  obtain ⟨⟨h1, ⟨h2, h3⟩, h4, h5⟩, h6⟩ := h
  exact ⟨h1, h2, h3, h4, h5, fun x hx => inB_iff.1 (List.all_eq_true.1 h6 x hx)⟩
theorem lfts_ok {ls : List Lft} (h : lftsB ls = true) : ls.length ≤ 12 ∧ ∀ s ∈ ls, LftOk s := by
  unfold lftsB at h
  rw [Bool.and_eq_true, decide_eq_true_eq] at h
  exact ⟨h.1, fun s hs => lftB_ok (List.all_eq_true.1 h.2 s hs)⟩
theorem lfts_no {ls : List Lft} {k : Nat} {s : Lft} (hk : ls[k]? = some s) (h : lftB s = false) : lftsB ls = false := by
  unfold lftsB; rw [all_no hk h, Bool.and_false]
theorem head_iff {s : Lft} : headB s = true ↔ s.2.2.1.length ≤ 8 ∧ (0 ≤ s.2.2.2 ∧ s.2.2.2 ≤ 20) ∧ -8 ≤ s.2.1 ∧ s.2.1 ≤ 8 := by
  unfold headB; simp only [Bool.and_eq_true, decide_eq_true_eq, inB_iff]
end Go.Proofs.Ytinjjaahljkhdaa
