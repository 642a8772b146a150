/- The walks of wrong, compute, Values and Step of package network, for valid networks, states and inputs. -/
import Derived.Test.YtemefigbnjkdoaaDoorT2
set_option linter.unusedVariables false
set_option linter.unusedSimpArgs false
namespace Go.Proofs.YtemefigbnjkdoaaDoor
open Go.RowKit

theorem fits_cons {d0 d1 d2 d3 x : Int} {s : List Int} (h1 : fitsW d0 d1 d2 d3 x = true) (h2 : ∀ v ∈ s, fitsW d0 d1 d2 d3 v = true) : ∀ v ∈ x :: s, fitsW d0 d1 d2 d3 v = true := fun v hv => by
  rcases List.mem_cons.1 hv with rfl | h
  · exact h1
  · exact h2 v h
theorem sumT_succ {ts : List (Int × Int)} {vs : List Int} {i : Nat} {t : Int × Int} (h : ts[i]? = some t) : sumT ts vs (i + 1) = sumT ts vs i + t.2 * atF vs t.1 := by
  show sumT ts vs i + _ = _
  rw [h]
/-- What a step of a sum needs. -/
theorem sum_step {ts : List (Int × Int)} {vs : List Int} {i : Nat} {f c y : Int} (ht : ∀ t ∈ ts, -8388608 ≤ t.2 ∧ t.2 ≤ 8388608) (hv : ∀ v ∈ vs, -8388608 ≤ v ∧ v ≤ 8388608) (h64 : ts.length ≤ 64) (h : ts[i]? = some (f, c)) (hy : atF vs f = y) :
    sumT ts vs (i + 1) = sumT ts vs i + c * y ∧ IntKind.i64.wrap (c * y) = c * y ∧ IntKind.i64.wrap (sumT ts vs i + c * y) = sumT ts vs i + c * y := by
  have h1 := sumT_succ (vs := vs) h
  simp only at h1
  rw [hy] at h1
  have hi := (List.getElem?_eq_some_iff.1 h).1
  have b1 := prod_46 (ht _ (List.mem_of_getElem? h)) (atF_23 hv f)
  rw [hy] at b1
  simp only at b1
  have b2 := sumT_bound ht hv (i + 1)
  rw [h1] at b2
  exact ⟨h1, IntWalk.i64_in _ (by omega), IntWalk.i64_in _ (by omega)⟩
theorem sum_i64 {ts : List (Int × Int)} {vs : List Int} (ht : ∀ t ∈ ts, -8388608 ≤ t.2 ∧ t.2 ≤ 8388608) (hv : ∀ v ∈ vs, -8388608 ≤ v ∧ v ≤ 8388608) (h64 : ts.length ≤ 64) : I64 (sumT ts vs ts.length) := by
  have := sumT_bound ht hv ts.length
  constructor <;> omega
/-- The values of a network, and whether one overflowed. -/
def RetVals (w : World) (l : List Int) (o : Bool) (e : Ending) (w' : World) : Prop := ∃ v, e = .returned (.tuple #[v, .bool o]) ∧ Own w.heap.size w' v l ∧ Below w.heap.size w w'
def RetVals3 (w : World) (l : List Int) (o : Bool) (e : Ending) (w' : World) : Prop := ∃ A c, e = .returned (.tuple #[.slice A l.length c, .bool o, .int .i64 0]) ∧ Ints w' A l ∧ Below w.heap.size w w'
/-- A step: the next state, the output, an overflow. -/
def RetStep (w : World) (l : List Int) (y : Int) (o : Bool) (e : Ending) (w' : World) : Prop := ∃ A c, e = .returned (.tuple #[.slice A l.length c, .int .i64 y, .bool o, .int .i64 0]) ∧ Ints w' A l ∧ (l ≠ [] → ∀ a, A = some a → w.heap.size ≤ a.block) ∧ Below w.heap.size w w'
end Go.Proofs.YtemefigbnjkdoaaDoor
