/- Several texts in one: Ti Y6. -/
import Derived.Test.YtdiflpbioohddaaDoorrS8toTg
import Derived.Test.YtdiflpbioohddaaDoorrU2toCr
import Derived.Test.YtdiflpbioohddaaDoorrJ
import Derived.Test.YtdiflpbioohddaaDoorrH4
import Derived.Test.YtdiflpbioohddaaDoorrG9toVc
import Derived.Test.YtdiflpbioohddaaDoorrE31toE30
import Derived.Deep.Slices
import Derived.Lib.SmallJoins
import Derived.Laws.Tables
import Derived.Laws.EntriesVeiled
import Derived.Test.YtdiflpbioohddaaDoorrE6toE23
import Derived.Test.YtdiflpbioohddaaDoorrY3toS26
set_option linter.unusedVariables false
set_option linter.unusedSimpArgs false
section
namespace Go.Proofs.YtdiflpbioohddaaDoor
open Go.RowKit
end Go.Proofs.YtdiflpbioohddaaDoor
end
section
namespace Go.Proofs.YtdiflpbioohddaaDoor
open Go.RowKit
theorem fit_words {n : NetD} {l : List Int} {k : Nat} (h : n.ok = true) : n.fit (wordsF n.d0 n.d1 n.d2 n.d3 l k) = true := by
  obtain ⟨p1, -⟩ := netB_parts h
  unfold NetD.fit wordsF
  rw [List.all_map, List.all_eq_true]
  intro i _
  exact word_fitsR p1 _
end Go.Proofs.YtdiflpbioohddaaDoor
end
