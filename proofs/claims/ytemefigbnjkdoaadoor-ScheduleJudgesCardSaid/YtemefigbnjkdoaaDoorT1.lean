/- Plain: the values of a network for a state and an input, and a step. -/
import Derived.Test.YtemefigbnjkdoaaDoorPt
set_option linter.unusedVariables false
set_option linter.unusedSimpArgs false
namespace Go.Proofs.YtemefigbnjkdoaaDoor
open Go.RowKit

/-- The sum of the first i products of a node. -/
def sumT (ts : List (Int × Int)) (vs : List Int) : Nat → Int
  | 0 => 0
  | i + 1 => sumT ts vs i + (match ts[i]? with | some t => t.2 * atF vs t.1 | none => 0)
/-- What a node has before it is reduced. -/
def nodeV (d2 c1 : Int) (vs : List Int) (ts : List (Int × Int)) : Int := shiftF (sumT ts vs ts.length) c1 d2
/-- The input, the states and the first k nodes' values. -/
def valsF (d0 d1 d2 d3 c1 : Int) (ns : List (List (Int × Int))) (x : List Int) : Nat → List Int
  | 0 => x
  | k + 1 => valsF d0 d1 d2 d3 c1 ns x k ++ (match ns[k]? with | some ts => [reduceW d0 d1 d2 d3 (nodeV d2 c1 (valsF d0 d1 d2 d3 c1 ns x k) ts)] | none => [])
/-- One of the first k nodes overflows. -/
def overF (d0 d1 d2 d3 c1 : Int) (ns : List (List (Int × Int))) (x : List Int) : Nat → Bool
  | 0 => false
  | k + 1 => overF d0 d1 d2 d3 c1 ns x k || (match ns[k]? with | some ts => !fitsW d0 d1 d2 d3 (nodeV d2 c1 (valsF d0 d1 d2 d3 c1 ns x k) ts) | none => false)
theorem valsF_succ {d0 d1 d2 d3 c1 : Int} {ns : List (List (Int × Int))} {x : List Int} {k : Nat} {ts : List (Int × Int)} (h : ns[k]? = some ts) :
    valsF d0 d1 d2 d3 c1 ns x (k + 1) = valsF d0 d1 d2 d3 c1 ns x k ++ [reduceW d0 d1 d2 d3 (nodeV d2 c1 (valsF d0 d1 d2 d3 c1 ns x k) ts)] := by
  show valsF d0 d1 d2 d3 c1 ns x k ++ _ = _
  rw [h]
theorem overF_succ {d0 d1 d2 d3 c1 : Int} {ns : List (List (Int × Int))} {x : List Int} {k : Nat} {ts : List (Int × Int)} (h : ns[k]? = some ts) :
    overF d0 d1 d2 d3 c1 ns x (k + 1) = (overF d0 d1 d2 d3 c1 ns x k || !fitsW d0 d1 d2 d3 (nodeV d2 c1 (valsF d0 d1 d2 d3 c1 ns x k) ts)) := by
  show (overF d0 d1 d2 d3 c1 ns x k || _) = _
  rw [h]
theorem valsF_length (d0 d1 d2 d3 c1 : Int) (ns : List (List (Int × Int))) (x : List Int) : ∀ k, k ≤ ns.length → (valsF d0 d1 d2 d3 c1 ns x k).length = x.length + k
  | 0, _ => rfl
  | k + 1, h => by
    obtain ⟨ts, hts⟩ : ∃ ts, ns[k]? = some ts := ⟨_, List.getElem?_eq_getElem (by omega)⟩
    rw [valsF_succ hts, List.length_append, valsF_length d0 d1 d2 d3 c1 ns x k (by omega)]
    simp
    omega
theorem valsF_fits {d0 d1 d2 d3 c1 : Int} {ns : List (List (Int × Int))} {x : List Int} (hd : okW d0 d1 d2 d3 = true) (hx : ∀ v ∈ x, fitsW d0 d1 d2 d3 v = true) : ∀ k, ∀ v ∈ valsF d0 d1 d2 d3 c1 ns x k, fitsW d0 d1 d2 d3 v = true
  | 0 => hx
  | k + 1 => fun v hv => by
    change v ∈ valsF d0 d1 d2 d3 c1 ns x k ++ (match ns[k]? with | some ts => [reduceW d0 d1 d2 d3 (nodeV d2 c1 (valsF d0 d1 d2 d3 c1 ns x k) ts)] | none => []) at hv
    rcases List.mem_append.1 hv with h | h
    · exact valsF_fits hd hx k v h
    · split at h
      · rw [List.mem_singleton] at h; subst h; exact fits_reduce hd _
      · cases h
/-- The next state. -/
def followF (nx vs : List Int) : List Int := nx.map (atF vs)
theorem pow_23 {b : Int} (h1 : 4 ≤ b) (h2 : b ≤ 24) : (2 : Int) ^ (b - 1).toNat ≤ 8388608 := by
  have : (2 : Int) ^ (b - 1).toNat ≤ 2 ^ 23 := pow_le (by omega)
  simpa using this
theorem fits_23 {b f r o v : Int} (h : fitsW b f r o v = true) : -8388608 ≤ v ∧ v ≤ 8388608 := by
  obtain ⟨hc, h1, h2⟩ := fits_iff.1 h
  obtain ⟨a1, a2, _⟩ := okW_iff.1 hc
  have hp := pow_23 a1 a2
  unfold lowW at h1
  unfold highW at h2
  rw [if_pos hc] at h1 h2
  omega
theorem term_23 {c0 c1 c2 c3 last : Int} {t : Int × Int} (hc : okW c0 c1 c2 c3 = true) (h : termB c0 c1 c2 c3 last t = true) : (0 ≤ t.1 ∧ t.1 ≤ last) ∧ -8388608 ≤ t.2 ∧ t.2 ≤ 8388608 := by
  unfold termB at h
  simp only [Bool.and_eq_true, Bool.or_eq_true, beq_iff_eq] at h
  refine ⟨inB_iff.1 h.1, ?_⟩
  rcases h.2 with h | h
  · exact fits_23 h
  · obtain ⟨a1, a2, a3, a4, _⟩ := okW_iff.1 hc
    have := pow_23 a1 a2
    have h3 : (2 : Int) ^ c1.toNat ≤ 2 ^ (c0 - 1).toNat := pow_le (by omega)
    have h4 : 0 < (2 : Int) ^ c1.toNat := pow_pos' _
    omega
theorem prod_46 {a b : Int} (ha : -8388608 ≤ a ∧ a ≤ 8388608) (hb : -8388608 ≤ b ∧ b ≤ 8388608) : -70368744177664 ≤ a * b ∧ a * b ≤ 70368744177664 := by
  have h : (a * b).natAbs ≤ 8388608 * 8388608 := by
    rw [Int.natAbs_mul]
    exact Nat.mul_le_mul (by omega) (by omega)
  omega
theorem atF_23 {vs : List Int} (hv : ∀ v ∈ vs, -8388608 ≤ v ∧ v ≤ 8388608) (i : Int) : -8388608 ≤ atF vs i ∧ atF vs i ≤ 8388608 := by
  unfold atF
  split
  · cases h : vs[i.toNat]? with
    | none => simp
    | some v => exact hv v (List.mem_of_getElem? h)
  · simp
theorem sumT_bound {ts : List (Int × Int)} {vs : List Int} (ht : ∀ t ∈ ts, -8388608 ≤ t.2 ∧ t.2 ≤ 8388608) (hv : ∀ v ∈ vs, -8388608 ≤ v ∧ v ≤ 8388608) : ∀ i : Nat, -(70368744177664 * (i : Int)) ≤ sumT ts vs i ∧ sumT ts vs i ≤ 70368744177664 * (i : Int)
  | 0 => by simp [sumT]
  | i + 1 => by
    have ih := sumT_bound ht hv i
    show -(70368744177664 * ((i + 1 : Nat) : Int)) ≤ sumT ts vs i + _ ∧ sumT ts vs i + _ ≤ _
    cases h : ts[i]? with
    | none => simp only []; omega
    | some t =>
      have := prod_46 (ht t (List.mem_of_getElem? h)) (atF_23 hv t.1)
      simp only []
      omega
end Go.Proofs.YtemefigbnjkdoaaDoor
