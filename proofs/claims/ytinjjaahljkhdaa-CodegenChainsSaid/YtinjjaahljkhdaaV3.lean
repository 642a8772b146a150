/- The walks of analyse and synthesise of package bank. -/
import Derived.Test.YtinjjaahljkhdaaV2
namespace Go.Proofs.Ytinjjaahljkhdaa
open Go.RowKit

/-- The first k elements of a list, zeros behind them. -/
def prN (l : List Int) (k : Nat) : List Int := (List.range l.length).map fun i => if i < k then el l i else 0
theorem prN_length (l : List Int) (k : Nat) : (prN l k).length = l.length := by simp [prN]
theorem prN_get {l : List Int} {k i : Nat} (h : i < l.length) : (prN l k)[i]? = some (if i < k then el l i else 0) := by
  simp only [prN, List.getElem?_map, List.getElem?_range h]; rfl
theorem prN_zero (l : List Int) : prN l 0 = List.replicate l.length 0 := by
  refine list_ext (by rw [prN_length]; simp) fun i hi => ?_
  rw [prN_length] at hi
  rw [el_of (prN_get hi), if_neg (by omega)]
  unfold el; rw [List.getElem?_replicate, if_pos hi]; rfl
theorem prN_all (l : List Int) : prN l l.length = l := by
  refine list_ext (prN_length _ _) fun i hi => ?_
  rw [prN_length] at hi
  rw [el_of (prN_get hi), if_pos hi]
theorem prN_at {l : List Int} {k : Nat} (h : k < l.length) : (prN l k)[k]? = some 0 := by rw [prN_get h, if_neg (by omega)]
theorem prN_succ {l : List Int} {k : Nat} (h : k < l.length) : prN l (k + 1) = (prN l k).set k (el l k) := by
  apply List.ext_getElem?
  intro n
  rw [List.getElem?_set, prN_length]
  rcases Nat.lt_or_ge n l.length with hn | hn
  · rw [prN_get hn, prN_get hn]
    by_cases e : k = n
    · subst e; rw [if_pos rfl, if_pos h, if_pos (by omega)]
    · rw [if_neg e]
      congr 1
      by_cases h1 : n < k
      · rw [if_pos h1, if_pos (by omega)]
      · rw [if_neg h1, if_neg (by omega)]
  · rw [if_neg (by omega), List.getElem?_eq_none (by rw [prN_length]; exact hn), List.getElem?_eq_none (by rw [prN_length]; exact hn)]
theorem ana_succ {ls : List Lft} {k : Nat} {s : Lft} (h : ls[k]? = some s) (p : List Int × List Int) : anaF (ls.take (k + 1)) p = lift1 1 (anaF (ls.take k) p) s := by
  unfold anaF
  rw [take_snoc' h, List.foldl_append]; rfl
theorem I64.w32 {l : List Int} (h : W32 l) {x : Int} (hx : x ∈ l) : I64 x := by have := h x hx; exact ⟨by omega, by omega⟩
theorem Own.kept {base : Nat} {w w' : World} {v : Value} {l : List Int} {r : Option Nat} (h : Own base w v l) (hg : w.grownBy w' r) (hne : v.ownBlock = none ∨ v.ownBlock ≠ r) : Own base w' v l := ⟨h.1.kept hg hne, h.2⟩
theorem Own.ints {base : Nat} {w : World} {A : Option Addr} {n c : Nat} {l : List Int} (h : Own base w (.slice A n c) l) : Ints w A l := by
  obtain ⟨A', c', e, _, hi⟩ := h.form
  injection e with e
  rw [e]; exact hi
theorem Own.len {base : Nat} {w : World} {A : Option Addr} {n c : Nat} {l : List Int} (h : Own base w (.slice A n c) l) : n = l.length := by
  obtain ⟨A', c', e, _, _⟩ := h.form
  injection e
theorem Own.other {base : Nat} {w : World} {g g' k n c : Nat} {l : List Int} {u : Value} (h : Own base w (.slice (some ⟨g, 0, none⟩) n c) l) (hne : g ≠ g') : Own base (w.setCell ⟨g', k, none⟩ u) (.slice (some ⟨g, 0, none⟩) n c) l :=
  h.kept (grown_set (grown_refl w (some g'))) (.inr (by show some g ≠ some g'; intro e; injection e with e; exact hne e))
theorem Own.kept_at {base : Nat} {w w' : World} {g g' n c : Nat} {l : List Int} (h : Own base w (.slice (some ⟨g, 0, none⟩) n c) l) (hg : w.grownBy w' (some g')) (hne : g ≠ g') : Own base w' (.slice (some ⟨g, 0, none⟩) n c) l :=
  h.kept hg (.inr (by show some g ≠ some g'; intro e; injection e with e; exact hne e))
/-- A call hands back two slices of its own that read as a and b. -/
def Ret2 (w : World) (a b : List Int) (e : Ending) (w' : World) : Prop := ∃ v1 v2, e = .returned (.tuple #[v1, v2]) ∧ Own w.heap.size w' v1 a ∧ Own w.heap.size w' v2 b ∧ Below w.heap.size w w'
end Go.Proofs.Ytinjjaahljkhdaa
