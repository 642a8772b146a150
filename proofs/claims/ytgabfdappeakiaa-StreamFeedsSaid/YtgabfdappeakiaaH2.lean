/- The walk of FormOne of package direct. -/
import Derived.Test.YtgabfdappeakiaaH1
import Derived.StillTailTactics
set_option linter.unusedVariables false
set_option linter.unusedSimpArgs false
namespace Go.Proofs.Ytgabfdappeakiaa
open Go.RowKit

theorem own_made {w : World} {base S g : Nat} (hg : g = w.heap.size) (hb : base ≤ w.heap.size) (hS : S ≤ 100000000) : Own base (w.alloc (.cells (madeCells #[Value.int .i64 0] S) 3)) (.slice (some ⟨g, 0, none⟩) S S) (List.replicate S 0) := by
  subst hg
  refine ⟨?_, fun q hq => by rw [List.eq_of_mem_replicate hq]; exact ⟨by decide, by decide⟩⟩
  have h := World.ownsRow_lit w (e := 3) (base := base) (size := 1) (madeCells #[Value.int .i64 0] S) S hb (by unfold maxLen; omega) (by rw [size_madeCells]; omega)
  have e := zeros_cells S
  rw [Nat.mul_one] at e
  rw [List.length_replicate]
  rw [show (madeCells #[Value.int .i64 0] S).toList = (List.replicate S (0 : Int)).map (Value.int .i64) from e] at h
  exact h
theorem nodes_two {w : World} {A2 A3 : Option Addr} {c2 c3 n2 n3 : Nat} {r2 r3 : List (Int × Int)} {t : TypeId} (h2 : TermsAt (w.alloc (.cells #[.slice A2 n2 c2, .slice A3 n3 c3] t)) A2 r2) (h3 : TermsAt (w.alloc (.cells #[.slice A2 n2 c2, .slice A3 n3 c3] t)) A3 r3) (l2 : r2.length = n2) (l3 : r3.length = n3) :
    NodesAt (w.alloc (.cells #[.slice A2 n2 c2, .slice A3 n3 c3] t)) (some ⟨w.heap.size, 0, none⟩) [r2, r3] := fun k ts hk => by
  subst l2 l3
  match k, hk with
  | 0, hk =>
    simp at hk; subst hk
    exact ⟨_, A2, c2, rfl, by simp, by simp [go_sem, Addr.add], h2⟩
  | 1, hk =>
    simp at hk; subst hk
    exact ⟨_, A3, c3, rfl, by simp, by simp [go_sem, Addr.add], h3⟩
theorem nodes_one {w : World} {g n c : Nat} {A : Option Addr} {ts : List (Int × Int)} (h : Box w g [.slice A n c]) (hT : TermsAt w A ts) (hn : ts.length = n) : NodesAt w (some ⟨g, 0, none⟩) [ts] := fun k t hk => by
  subst hn
  match k, hk with
  | 0, hk =>
    simp at hk; subst hk
    exact ⟨_, A, c, rfl, h.1, h.2.1 0, hT⟩
end Go.Proofs.Ytgabfdappeakiaa
