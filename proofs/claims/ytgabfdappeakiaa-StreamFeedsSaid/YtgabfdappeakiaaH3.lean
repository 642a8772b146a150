/- The walk of known of the law of layer 41. -/
import Derived.Test.YtgabfdappeakiaaH2
import Derived.Test.YtgabfdappeakiaaPu
import Derived.Test.YtgabfdappeakiaaPr
import Derived.Test.YtgabfdappeakiaaPs
import Derived.Deep.RegionHeld3
import Derived.Deep.DeepCutAuto
import Derived.Handy
set_option linter.unusedVariables false
set_option linter.unusedSimpArgs false
namespace Go.Proofs.Ytgabfdappeakiaa
open Go.RowKit

theorem mk0D : mkW 0 6 12 2 = (6, 3, 1, 1) := by decide
theorem mk0C : mkW 0 6 9 1 = (6, 4, 1, 1) := by decide
def zeros12 : List Value := [.int .i64 0, .int .i64 0, .int .i64 0, .int .i64 0, .int .i64 0, .int .i64 0, .int .i64 0, .int .i64 0, .int .i64 0, .slice none 0 0, .slice none 0 0, .int .i64 0]
theorem sepI {w : World} {q : Nat} {XA : Option Addr} (hq : Box w q zeros12) (h : Ints w XA [0, 1, 4]) : ∀ a, XA = some a → some a.block ≠ some q := fun a e hc => by
  subst e
  injection hc with hc
  obtain ⟨ad, x, e, _, hx, hcell, _⟩ := h.at_ (k := 1) (by decide)
  injection e with e
  subst e
  simp at hx
  subst hx
  have := hq.mem_at hcell (by rw [block_add]; exact hc)
  simp [zeros12] at this
theorem sepT {w : World} {q : Nat} {B : Option Addr} (hq : Box w q zeros12) (h : TermsAt w B [(0, 1), (1, 2), (2, 3), (3, -4)]) : ∀ a, B = some a → some a.block ≠ some q := fun a e hc => by
  subst e
  injection hc with hc
  obtain ⟨ad, e, _, hcell, _⟩ := h 1 (1, 2) rfl
  injection e with e
  subst e
  have := hq.mem_at hcell (by rw [block_add]; exact hc)
  simp [zeros12] at this
theorem sepN {w : World} {q : Nat} {A : Option Addr} (hq : Box w q zeros12) (h : NodesAt w A [[(0, 1), (1, 2), (2, 3), (3, -4)]]) : ∀ a, A = some a → some a.block ≠ some q := fun a e hc => by
  subst e
  injection hc with hc
  obtain ⟨ad, B, c, e, _, hcell, _⟩ := h 0 _ rfl
  injection e with e
  subst e
  have := hq.mem_at hcell (by rw [block_add]; exact hc)
  simp [zeros12] at this
end Go.Proofs.Ytgabfdappeakiaa
