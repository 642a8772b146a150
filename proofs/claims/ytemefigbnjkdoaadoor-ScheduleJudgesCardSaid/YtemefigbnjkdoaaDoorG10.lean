/- The walk of chains of the law of layer 41: both Chains answer alike, for any network. -/
import Derived.Test.YtemefigbnjkdoaaDoorG9
import Derived.Test.YtemefigbnjkdoaaDoorPs
set_option linter.unusedVariables false
set_option linter.unusedSimpArgs false
namespace Go.Proofs.YtemefigbnjkdoaaDoor
open Go.RowKit

theorem preF_le (nx : List Int) (s : Nat) : ∀ k, (preF nx s k).length ≤ k
  | 0 => Nat.le_refl _
  | k + 1 => by
    have := preF_le nx s k
    show (preF nx s k ++ (match itF nx s k with | some x => [(x : Int)] | none => [])).length ≤ k + 1
    rw [List.length_append]
    split <;> simp <;> omega
theorem lnF_bound (nx : List Int) : ∀ k, ∀ l ∈ lnF nx k, l.length ≤ nx.length
  | 0, l, h => by cases h
  | k + 1, l, h => by
    change l ∈ lnF nx k ++ (if ledB nx nx.length k then [] else [lineF nx k]) at h
    rcases List.mem_append.1 h with h | h
    · exact lnF_bound nx k l h
    · split at h
      · cases h
      · simp only [List.mem_singleton] at h
        subst h
        exact preF_le nx k nx.length
end Go.Proofs.YtemefigbnjkdoaaDoor
