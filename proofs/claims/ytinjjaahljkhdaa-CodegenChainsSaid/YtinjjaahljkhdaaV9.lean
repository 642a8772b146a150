/- Rows of lifting steps of the call's own; the plain form of Steps.Lifts. -/
import Derived.Test.YtinjjaahljkhdaaV8
import Derived.Maps.AppendAt
namespace Go.Proofs.Ytinjjaahljkhdaa
open Go.RowKit

def elB (l : List Bool) (i : Nat) : Bool := (l[i]?).getD false
def mkL (os : List Bool) (st cf sh : List Int) (i : Nat) : Lft :=
  (elB os i, withinF (atF st i) 17 - 8, belowF 4096 [atF cf (3 * i), atF cf (3 * i + 1), atF cf (3 * i + 2)] (withinF (atF cf i) 4).toNat, withinF (atF sh i) 8)
def lftsF (os : List Bool) (st cf sh : List Int) (k : Nat) : List Lft := (List.range k).map (mkL os st cf sh)
theorem lftsF_length (os : List Bool) (st cf sh : List Int) (k : Nat) : (lftsF os st cf sh k).length = k := by simp [lftsF]
theorem lftsF_succ (os : List Bool) (st cf sh : List Int) (k : Nat) : lftsF os st cf sh (k + 1) = lftsF os st cf sh k ++ [mkL os st cf sh k] := by simp [lftsF, List.range_succ]
theorem mkL_ok (os : List Bool) (st cf sh : List Int) (i : Nat) : lftB (mkL os st cf sh i) = true ∧ (mkL os st cf sh i).2.2.1.length ≤ 3 := by
  have a := within_in (m := 17) (by omega) (atF st i)
  have b := within_in (m := 8) (by omega) (atF sh i)
  have c := within_in (m := 4) (by omega) (atF cf i)
  have hl : (mkL os st cf sh i).2.2.1.length ≤ 3 := by unfold mkL; simp only [belowF_length]; omega
  refine ⟨?_, hl⟩
  unfold lftB headB
  simp only [Bool.and_eq_true, decide_eq_true_eq, inB_iff]
  refine ⟨⟨by omega, ⟨?_, ?_⟩, ?_, ?_⟩, ?_⟩
  · exact b.1
  · show withinF (atF sh i) 8 ≤ 20; omega
  · show -8 ≤ withinF (atF st i) 17 - 8; omega
  · show withinF (atF st i) 17 - 8 ≤ 8; omega
  · refine List.all_eq_true.2 fun x hx => ?_
    unfold mkL at hx
    simp only [belowF] at hx
    obtain ⟨j, _, rfl⟩ := List.mem_map.1 hx
    have := within_in (m := 2 * 4096 + 1) (by omega) (wrap64 (atF [atF cf (3 * i), atF cf (3 * i + 1), atF cf (3 * i + 2)] (j : Int) + 4096))
    unfold cfB
    rw [inB_iff]
    omega
theorem lftsF_ok (os : List Bool) (st cf sh : List Int) (k : Nat) (hk : k ≤ 5) : lftsB (lftsF os st cf sh k) = true := by
  unfold lftsB
  rw [Bool.and_eq_true, decide_eq_true_eq, lftsF_length]
  refine ⟨by omega, List.all_eq_true.2 fun s hs => ?_⟩
  obtain ⟨i, _, rfl⟩ := List.mem_map.1 hs
  exact (mkL_ok _ _ _ _ i).1
theorem own_cells {base n c size : Nat} {e : TypeId} {A : Option Addr} {w : World} {xs : List Value} (h : w.ownsRow base e size (.slice A n c) n xs) {k : Nat} {v : Value} (hk : xs[k]? = some v) :
    ∃ g, A = some ⟨g, 0, none⟩ ∧ g < w.heap.size ∧ w.cell? ⟨g, k, none⟩ = some v := by
  obtain ⟨h1, h2 | ⟨g, cap, cur, hv, hg, hh, _, _, hs, ht⟩⟩ := h
  · obtain ⟨_, rfl⟩ := h2
    have : xs = [] := List.length_eq_zero_iff.1 (by omega)
    subst this; simp at hk
  · injection hv with hA _ _
    have hlt : g < w.heap.size := by
      rcases Nat.lt_or_ge g w.heap.size with h | h
      · exact h
      · rw [Array.getElem?_eq_none h] at hh; cases hh
    refine ⟨g, hA, hlt, ?_⟩
    rw [← ht, List.getElem?_take] at hk
    split at hk
    · simp [World.cell?, hh] 
      simpa using hk
    · cases hk
end Go.Proofs.Ytinjjaahljkhdaa
