/- Legal of package schedule: the plain law, the places of each instruction, the walk. Printed by gen_e26.py. -/
import Derived.Test.YtpmbgcfnehplaaaDoorE25
import Derived.Test.YtpmbgcfnehplaaaDoorE18
import Derived.Test.YtpmbgcfnehplaaaDoorPy
import Derived.Test.YtpmbgcfnehplaaaDoorPs
import Derived.Carry
import Derived.Test.YtpmbgcfnehplaaaDoorPw
set_option linter.unusedVariables false
set_option linter.unusedSimpArgs false
namespace Go.Proofs.YtpmbgcfnehplaaaDoor
open Go.RowKit

/-! ### The places of each instruction -/
def posK (m : List Ins) (k : Nat) (v : Ins) : List Int := ((List.range k).filter fun p => decide (m[p]? = some v)).map fun (p : Nat) => (p : Int)
theorem posK_zero (m : List Ins) (v : Ins) : posK m 0 v = [] := rfl
theorem posK_succ {m : List Ins} {k : Nat} {i : Ins} (h : m[k]? = some i) (v : Ins) : posK m (k + 1) v = if v = i then posK m k v ++ [(k : Int)] else posK m k v := by
  unfold posK
  rw [List.range_succ, List.filter_append, List.map_append]
  by_cases e : v = i
  · subst e; simp [h]
  · rw [if_neg e]
    have : ¬ i = v := fun e2 => e e2.symm
    simp [h, this]
theorem posK_len (m : List Ins) (k : Nat) (v : Ins) : (posK m k v).length ≤ k := by
  unfold posK
  rw [List.length_map]
  have := List.length_filter_le (fun p => decide (m[p]? = some v)) (List.range k)
  simpa using this
theorem posK_full (m : List Ins) (v : Ins) : posK m m.length v = (posF m v).map fun (p : Nat) => (p : Int) := rfl
/-- What is left of the places of i when the first k of l have taken theirs. -/
def leftK (l m : List Ins) (k : Nat) (i : Ins) : List Int := (posK m m.length i).drop ((l.take k).count i)
theorem leftK_zero (l m : List Ins) (i : Ins) : leftK l m 0 i = posK m m.length i := by simp [leftK]
theorem leftK_other {l m : List Ins} {k : Nat} {i j : Ins} (h : l[k]? = some i) (hne : j ≠ i) : leftK l m (k + 1) j = leftK l m k j := by
  unfold leftK
  have : ¬ i = j := fun e => hne e.symm
  rw [take_snocI h, List.count_append]
  simp [this]
theorem leftK_nil {l m : List Ins} {k : Nat} {i : Ins} (h : l[k]? = some i) (he : leftK l m k i = []) : plF l m k = m.length := by
  unfold leftK at he
  have := List.drop_eq_nil_iff.1 he
  rw [posK_full, List.length_map, posF_len] at this
  exact plF_none h this
theorem leftK_cons {l m : List Ins} {k : Nat} {i : Ins} {x : Int} {r : List Int} (h : l[k]? = some i) (he : leftK l m k i = x :: r) : x = (plF l m k : Int) ∧ leftK l m (k + 1) i = r := by
  unfold leftK at he ⊢
  have hx : (posK m m.length i)[(l.take k).count i]? = some x := by
    have := congrArg (·[0]?) he
    simp at this
    exact this
  constructor
  · rw [posK_full, List.getElem?_map] at hx
    unfold plF
    rw [getD_of h, List.getD_eq_getElem?_getD]
    cases e : (posF m i)[(l.take k).count i]? with
    | none => rw [e] at hx; cases hx
    | some p => rw [e] at hx; injection hx with hx; exact hx.symm
  · rw [take_snocI h, List.count_append]
    have : List.count i [i] = 1 := by simp
    rw [this, ← List.drop_drop, he]; rfl
theorem leftK_len (l m : List Ins) (k : Nat) (i : Ins) : (leftK l m k i).length ≤ m.length := by
  unfold leftK
  rw [List.length_drop]
  have := posK_len m m.length i
  omega
def atL (l m : List Ins) (n k : Nat) : List Int := (List.range n).map fun i => if i < k then (plF l m i : Int) else 0
theorem atL_length (l m : List Ins) (n k : Nat) : (atL l m n k).length = n := by simp [atL]
theorem atL_zero (l m : List Ins) (n : Nat) : atL l m n 0 = List.replicate n 0 := by
  apply List.ext_getElem?
  intro i
  unfold atL
  rw [List.getElem?_map, List.getElem?_replicate]
  by_cases h : i < n
  · rw [List.getElem?_range h, if_pos h]; rfl
  · rw [List.getElem?_eq_none (by simpa using h), if_neg h]; rfl
theorem atL_set (l m : List Ins) (n k : Nat) : (atL l m n k).set k (plF l m k : Int) = atL l m n (k + 1) := by
  apply List.ext_getElem?
  intro i
  by_cases h : i < n
  · have hr : ∀ t, (atL l m n t)[i]? = some (if i < t then (plF l m i : Int) else 0) := fun t => by
      unfold atL; rw [List.getElem?_map, List.getElem?_range h]; rfl
    rw [hr]
    by_cases e : k = i
    · subst e
      rw [List.getElem?_set_self (by rw [atL_length]; exact h), if_pos (by omega)]
    · rw [List.getElem?_set_ne e, hr]
      by_cases h2 : i < k
      · rw [if_pos h2, if_pos (by omega)]
      · rw [if_neg h2, if_neg (by omega)]
  · rw [List.getElem?_eq_none (by rw [List.length_set, atL_length]; omega), List.getElem?_eq_none (by rw [atL_length]; omega)]
theorem atL_at {l m : List Ins} {n i : Nat} (h : i < n) : (atL l m n n)[i]? = some (plF l m i : Int) := by
  unfold atL; rw [List.getElem?_map, List.getElem?_range h]
  show some (if i < n then _ else _) = _
  rw [if_pos h]
theorem plF_le (l m : List Ins) (i : Nat) : plF l m i ≤ m.length := by
  unfold plF
  rw [List.getD_eq_getElem?_getD]
  cases e : (posF m (l.getD i Ins.zero))[(l.take i).count (l.getD i Ins.zero)]? with
  | none => exact Nat.le_refl _
  | some p => exact Nat.le_of_lt (posF_of e).1
/-- The relation that both Legal decide. -/
def legR (l m : List Ins) : Bool := fineF l && fineF m && legB l m
def legE (l m : List Ins) : Int := if fineF l && fineF m then 0 else 21
theorem leg_len {l m : List Ins} (h : l.length ≠ m.length) : legB l m = false := by unfold legB; rw [decide_eq_false h]; rfl
theorem leg_short {l m : List Ins} {k : Nat} (hk : k < l.length) (h : plF l m k = m.length) : legB l m = false := by
  unfold legB
  have : (List.range l.length).all (fun i => decide (plF l m i < m.length)) = false := by
    rw [Bool.eq_false_iff]
    intro hc
    have := of_decide_eq_true (List.all_eq_true.1 hc k (by simpa using hk))
    omega
  rw [this, Bool.and_false, Bool.false_and]
/-- All that j waits for stands before it. -/
def okR (l m : List Ins) (j : Nat) (v : Int) : Bool := decide (plF l m v.toNat ≤ plF l m j)
theorem leg_bad {l m : List Ins} {j : Nat} {v : Int} (hj : j < l.length) (hv : v ∈ depRow l j j) (h : okR l m j v = false) : legB l m = false := by
  unfold legB
  have : ((List.range l.length).all fun j => (depRow l j j).all fun i => decide (plF l m i.toNat < plF l m j)) = false := by
    rw [Bool.eq_false_iff]
    intro hc
    have h1 := of_decide_eq_true (List.all_eq_true.1 (List.all_eq_true.1 hc j (by simpa using hj)) v hv)
    have h2 := of_decide_eq_false h
    omega
  rw [this, Bool.and_false]
theorem leg_good {l m : List Ins} (h1 : l.length = m.length) (h2 : ∀ k, k < l.length → plF l m k < m.length) (h3 : ((List.range l.length).all fun j => (depRow l j j).all (okR l m j)) = true) : legB l m = true := by
  unfold legB
  rw [Bool.and_eq_true, Bool.and_eq_true, decide_eq_true_eq]
  refine ⟨⟨h1, List.all_eq_true.2 fun i hi => decide_eq_true (h2 i (by simpa using hi))⟩, List.all_eq_true.2 fun j hj => List.all_eq_true.2 fun v hv => decide_eq_true ?_⟩
  have h4 := of_decide_eq_true (List.all_eq_true.1 (List.all_eq_true.1 h3 j hj) v hv)
  obtain ⟨i, hi, rfl, -⟩ := depRow_mem hv
  have hj : j < l.length := by simpa using hj
  rw [Int.toNat_natCast] at h4 ⊢
  refine Nat.lt_of_le_of_ne h4 (fun e => ?_)
  have := plF_inj (by omega) hj (h2 i (by omega)) e
  omega
theorem and_all {p : Nat → Bool} {k : Nat} (h1 : (List.range k).all p = true) (h2 : p k = true) : (List.range (k + 1)).all p = true := by
  rw [List.range_succ, List.all_append, h1]; simp [h2]
theorem MapI.lt {w : World} {b : Nat} {g : Ins → Value} (h : MapI w b g) : b < w.heap.size := by
  obtain ⟨es, clock, hE, -⟩ := h
  exact hE.size
theorem MapI.grow {w w' : World} {b : Nat} {g : Ins → Value} (h : MapI w b g) (hb : Below w.heap.size w w') : MapI w' b g := h.block (hb.block b h.lt)
theorem MapI.alloc {w : World} {b : Nat} {g : Ins → Value} (h : MapI w b g) (o : Obj) : MapI (w.alloc o) b g := h.grow ((Below.refl _ _).alloc (Nat.le_refl _) o)
theorem MapI.store {w : World} {b gT k : Nat} {u : Value} {g : Ins → Value} (h : MapI w b g) (hn : b ≠ gT) : MapI (w.setCell ⟨gT, k, none⟩ u) b g := h.block (Below.heap_setCell w _ u b (by show b ≠ gT; exact hn))
end Go.Proofs.YtpmbgcfnehplaaaDoor
