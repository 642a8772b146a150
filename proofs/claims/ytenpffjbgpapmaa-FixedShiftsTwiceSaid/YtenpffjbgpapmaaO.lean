/- How arguments are opened: a format by value. -/
import Derived.Test.YtenpffjbgpapmaaFx
import Derived.ProofKit
import Derived.Lib.SmallJoins
namespace Go.Proofs.Ytenpffjbgpapmaa
open Go.Joins Go.ChangeShapes Go.WideShapes Go.RowKit

theorem open_Word {H : Type} {enc : TypeId × Value → H} {w : World} {base : Nat} {spare : Nat → Bool} {held : Bool} {r : Reach} {b0 : Nat} {v : Value} {d : DataW H} {p : List MemPlace}
    (hv : Value.okWide Try.prog w r b0 39 v) (h : DataW.Trod enc Try.prog w base spare held 39 v d p) :
    ∃ u : Int × Int × Int × Int, v = wordV u.1 u.2.1 u.2.2.1 u.2.2.2 ∧ (I64 u.1 ∧ I64 u.2.1 ∧ I64 u.2.2.1 ∧ I64 u.2.2.2) := by
  obtain ⟨c0, c1, c2, c3, y0, y1, y2, y3, m, rfl, rfl, rfl, h0, h1, h2, h3⟩ := open_agg4 Try.underlying39 (by kernel_rfl) (by kernel_rfl) hv h
  obtain ⟨x0, e0, _, w0⟩ := DataW.trod_int Try.underlying3 h0
  obtain ⟨x1, e1, _, w1⟩ := DataW.trod_int Try.underlying3 h1
  obtain ⟨x2, e2, _, w2⟩ := DataW.trod_int Try.underlying3 h2
  obtain ⟨x3, e3, _, w3⟩ := DataW.trod_int Try.underlying3 h3
  simp at e0 e1 e2 e3
  subst e0 e1 e2 e3
  exact ⟨⟨x0, x1, x2, x3⟩, rfl, i64_of_wf w0, i64_of_wf w1, i64_of_wf w2, i64_of_wf w3⟩
end Go.Proofs.Ytenpffjbgpapmaa
