/- The walk of synthesise of package bank. -/
import Derived.Test.YtinjjaahljkhdaaV3
import Derived.Test.YtinjjaahljkhdaaAs
namespace Go.Proofs.Ytinjjaahljkhdaa
open Go.RowKit

theorem add_cell0 {b k : Nat} : (⟨b, 0, none⟩ : Addr).add k = ⟨b, k, none⟩ := by
  unfold Addr.add; by_cases h0 : k = 0 <;> simp [h0]
theorem syn_succ {ls : List Lft} {k : Nat} {s : Lft} (h : ls[k]? = some s) (p : List Int × List Int) : synF (ls.drop k) p = lift1 (-1) (synF (ls.drop (k + 1)) p) s := by
  have hk := (List.getElem?_eq_some_iff.1 h).1
  have e : ls.drop k = s :: ls.drop (k + 1) := by
    rw [List.drop_eq_getElem_cons hk]
    congr 1
    rw [List.getElem?_eq_getElem hk] at h
    injection h
  unfold synF
  rw [e, List.reverse_cons, List.foldl_append]; rfl
theorem Own.empty {w : World} {g : Nat} (hg : g = w.heap.size) : Own g (w.alloc (.cells #[] 3)) (.slice (some ⟨g, 0, none⟩) 0 0) [] := by
  subst hg
  refine ⟨⟨rfl, .inr ⟨w.heap.size, 0, #[], rfl, Nat.le_refl _, heap_alloc_new w _, Nat.le_refl _, by simp, by simp, by simp⟩⟩, by simp⟩
theorem Own.at_block {base : Nat} {w : World} {v : Value} {l : List Int} {g : Nat} (h : Own base w v l) (hv : v.ownBlock = some g) : ∃ cap, v = .slice (some ⟨g, 0, none⟩) l.length cap ∧ base ≤ g ∧ g < w.heap.size := by
  have h2 := h.1.lt g hv
  obtain ⟨_, ⟨rfl, _⟩ | ⟨g', cap, cur, rfl, _⟩⟩ := h.1
  · cases hv
  · have : some g' = some g := hv
    injection this with e
    subst e
    exact ⟨cap, rfl, h2⟩
end Go.Proofs.Ytinjjaahljkhdaa
