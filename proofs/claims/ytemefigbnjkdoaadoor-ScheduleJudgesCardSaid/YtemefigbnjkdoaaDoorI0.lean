/- Numbers that lie in blocks from b on; rows that stay; slices.Clone of numbers. -/
import Derived.Test.YtemefigbnjkdoaaDoorT2
import Derived.Lib.SliceRun
set_option linter.unusedVariables false
set_option linter.unusedSimpArgs false
namespace Go.Proofs.YtemefigbnjkdoaaDoor
open Go.RowKit

theorem ints_none {w : World} {l : List Int} (h : Ints w none l) : l = [] := by
  cases l with
  | nil => rfl
  | cons x t => obtain ⟨ad, _, e, _⟩ := h.at_ (k := 0) (by simp); cases e
/-- Numbers that lie in blocks from b on. -/
def IntsF (b : Nat) (w : World) (A : Option Addr) (l : List Int) : Prop := Ints w A l ∧ (l ≠ [] → ∀ a, A = some a → b ≤ a.block)
theorem IntsF.nil {b : Nat} {w : World} {A : Option Addr} : IntsF b w A [] := ⟨Ints.nil, fun h => absurd rfl h⟩
theorem IntsF.base {b b' : Nat} {w : World} {A : Option Addr} {l : List Int} (h : IntsF b w A l) (hb : b' ≤ b) : IntsF b' w A l := ⟨h.1, fun hl a ha => Nat.le_trans hb (h.2 hl a ha)⟩
theorem IntsF.grow {b : Nat} {w w' : World} {A : Option Addr} {l : List Int} (h : IntsF b w A l) (hb : Below w.heap.size w w') : IntsF b w' A l := ⟨h.1.grow hb, h.2⟩
theorem IntsF.away {b q : Nat} {w w' : World} {A : Option Addr} {l : List Int} (h : IntsF b w A l) (hg : w.grownBy w' (some q)) (hq : q < b) : IntsF b w' A l := by
  refine ⟨⟨fun k v hk => ?_, h.1.2⟩, h.2⟩
  obtain ⟨ad, e, hb, hc⟩ := h.1.1 k v hk
  have hl : l ≠ [] := by rintro rfl; simp at hk
  have := h.2 hl ad e
  exact ⟨ad, e, Nat.lt_of_lt_of_le hb hg.size, hg.cell hc (by rw [block_add]; intro e'; injection e' with e'; omega)⟩
theorem IntsF.own {b n c : Nat} {w : World} {A : Option Addr} {l : List Int} (h : Own b w (.slice A n c) l) : IntsF b w A l := ⟨h.ints, fun _ a ha => by subst ha; exact (h.1.lt a.block rfl).1⟩
theorem ints_kept {w w' : World} {A : Option Addr} {l : List Int} {r : Option Nat} (h : Ints w A l) (hg : w.grownBy w' r) (hn : l ≠ [] → ∀ a, A = some a → some a.block ≠ r) : Ints w' A l := by
  refine ⟨fun k v hk => ?_, h.2⟩
  obtain ⟨ad, e, hb, hc⟩ := h.1 k v hk
  have hl : l ≠ [] := by rintro rfl; simp at hk
  exact ⟨ad, e, Nat.lt_of_lt_of_le hb hg.size, hg.cell hc (by rw [block_add]; exact hn hl ad e)⟩
theorem ints_block {w : World} {A : Option Addr} {l : List Int} (h : Ints w A l) (hl : l ≠ []) {a : Addr} (e : A = some a) : a.block < w.heap.size := by
  obtain ⟨ad, _, e', hb, _⟩ := h.at_ (k := 0) (List.length_pos_iff.2 hl)
  rw [e] at e'; injection e' with e'; subst e'; exact hb
end Go.Proofs.YtemefigbnjkdoaaDoor
