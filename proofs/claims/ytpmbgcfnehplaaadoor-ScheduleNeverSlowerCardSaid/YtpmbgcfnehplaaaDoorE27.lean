/- pairs and Legal of the reference of layer 40. Printed by gen_e27.py. -/
import Derived.Test.YtpmbgcfnehplaaaDoorE26
import Derived.Test.YtpmbgcfnehplaaaDoorE20
set_option linter.unusedVariables false
set_option linter.unusedSimpArgs false
namespace Go.Proofs.YtpmbgcfnehplaaaDoor
open Go.RowKit

/-! ### Which places are taken -/
def usedB (l m : List Ins) (k p : Nat) : Bool := decide ((m.take p).count (m.getD p Ins.zero) < (l.take k).count (m.getD p Ins.zero))
def usedK (l m : List Ins) (n k : Nat) : List Bool := (List.range n).map (usedB l m k)
theorem usedK_length (l m : List Ins) (n k : Nat) : (usedK l m n k).length = n := by simp [usedK]
theorem usedK_at {l m : List Ins} {n k p : Nat} (h : p < n) : (usedK l m n k)[p]? = some (usedB l m k p) := by
  unfold usedK; rw [List.getElem?_map, List.getElem?_range h]; rfl
theorem usedK_zero (l m : List Ins) (n : Nat) : usedK l m n 0 = List.replicate n false := by
  apply List.ext_getElem?
  intro i
  rw [List.getElem?_replicate]
  by_cases h : i < n
  · rw [usedK_at h, if_pos h]
    simp [usedB]
  · rw [List.getElem?_eq_none (by rw [usedK_length]; omega), if_neg h]
theorem used_at {l m : List Ins} {k p : Nat} {v : Ins} (h : m[p]? = some v) : usedB l m k p = decide ((m.take p).count v < (l.take k).count v) := by unfold usedB; rw [getD_of h]
theorem usedK_set {l m : List Ins} {n k : Nat} {i : Ins} (hm : m.length = n) (h : l[k]? = some i) (hp : plF l m k < n) : (usedK l m n k).set (plF l m k) true = usedK l m n (k + 1) := by
  have hc : (l.take k).count i < m.count i := Nat.lt_of_not_le fun hc => by have := plF_none h hc; omega
  obtain ⟨p1, p2⟩ := plF_some h hc
  apply List.ext_getElem?
  intro q
  by_cases hq : q < n
  · obtain ⟨v, hv⟩ : ∃ v, m[q]? = some v := ⟨_, List.getElem?_eq_getElem (by omega)⟩
    rw [usedK_at hq, used_at hv, take_snocI h, List.count_append]
    by_cases e : plF l m k = q
    · subst e
      rw [p1] at hv
      obtain rfl := Option.some.inj hv
      rw [List.getElem?_set_self (by rw [usedK_length]; exact hq), p2]
      simp
    · rw [List.getElem?_set_ne e, usedK_at hq, used_at hv]
      by_cases e2 : i = v
      · subst e2
        have hne : (m.take q).count i ≠ (l.take k).count i := fun e3 => e (cnt_take_inj p1 hv (p2.trans e3.symm))
        simp
        omega
      · simp [e2]
  · rw [List.getElem?_eq_none (by rw [List.length_set, usedK_length]; omega), List.getElem?_eq_none (by rw [usedK_length]; omega)]
/-- The least place that is free and fits is the one that is sought. -/
theorem pl_least {l m : List Ins} {k a : Nat} {i : Ins} (h : l[k]? = some i) (hb : ∀ q, q < a → usedB l m k q = true ∨ m[q]? ≠ some i) (ha : a = m.length ∨ (usedB l m k a = false ∧ m[a]? = some i)) : plF l m k = a := by
  rcases ha with rfl | ⟨h1, h2⟩
  · refine Classical.byContradiction fun hne => ?_
    have hle := plF_le l m k
    have hlt : plF l m k < m.length := by omega
    have hc : (l.take k).count i < m.count i := Nat.lt_of_not_le fun hc => by have := plF_none h hc; omega
    obtain ⟨p1, p2⟩ := plF_some h hc
    rcases hb _ hlt with h3 | h3
    · rw [used_at p1, p2] at h3
      have := of_decide_eq_true h3
      omega
    · exact h3 p1
  · rw [used_at h2] at h1
    have h1 := of_decide_eq_false h1
    have hc : (l.take k).count i < m.count i := by have := cnt_lt_all h2; omega
    obtain ⟨p1, p2⟩ := plF_some h hc
    rcases Nat.lt_trichotomy (plF l m k) a with h3 | h3 | h3
    · rcases hb _ h3 with h4 | h4
      · rw [used_at p1, p2] at h4
        have := of_decide_eq_true h4
        omega
      · exact absurd p1 h4
    · exact h3
    · have := cnt_take_lt h2 h3
      omega
/-- Are all found? -/
def okP (l m : List Ins) : Bool := decide (l.length = m.length) && (List.range l.length).all fun i => decide (plF l m i < m.length)
def plL (l m : List Ins) (k : Nat) : List Int := (List.range k).map fun (i : Nat) => ((plF l m i : Nat) : Int)
theorem plL_succ (l m : List Ins) (k : Nat) : plL l m (k + 1) = plL l m k ++ [((plF l m k : Nat) : Int)] := by simp [plL, List.range_succ]
theorem plL_length (l m : List Ins) (k : Nat) : (plL l m k).length = k := by simp [plL]
theorem plL_at {l m : List Ins} {k i : Nat} (h : i < k) : (plL l m k)[i]? = some ((plF l m i : Nat) : Int) := by unfold plL; rw [List.getElem?_map, List.getElem?_range h]; rfl
theorem okP_short {l m : List Ins} {k : Nat} (hk : k < l.length) (h : plF l m k = m.length) : okP l m = false := by
  unfold okP
  have : (List.range l.length).all (fun i => decide (plF l m i < m.length)) = false := by
    rw [Bool.eq_false_iff]
    intro hc
    have := of_decide_eq_true (List.all_eq_true.1 hc k (by simpa using hk))
    omega
  rw [this, Bool.and_false]
theorem okP_all {l m : List Ins} (h1 : l.length = m.length) (h2 : ∀ k, k < l.length → plF l m k < m.length) : okP l m = true := by
  unfold okP
  rw [decide_eq_true h1, Bool.true_and]
  exact List.all_eq_true.2 fun i hi => decide_eq_true (h2 i (by simpa using hi))
theorem okP_of {l m : List Ins} (h : okP l m = true) : l.length = m.length ∧ ∀ k, k < l.length → plF l m k < m.length := by
  unfold okP at h
  rw [Bool.and_eq_true, decide_eq_true_eq] at h
  exact ⟨h.1, fun k hk => of_decide_eq_true (List.all_eq_true.1 h.2 k (by simpa using hk))⟩
theorem okP_leg {l m : List Ins} (h : okP l m = false) : legB l m = false := by
  unfold legB
  unfold okP at h
  rw [h, Bool.false_and]
/-- What pairs hands back. -/
def RetPr (w : World) (l m : List Ins) (e : Ending) (w' : World) : Prop := (∃ V k c, e = .returned (.tuple #[.slice V k c, .bool (okP l m)]) ∧ (okP l m = true → k = l.length ∧ Ints w' V (plL l m l.length))) ∧ Below w.heap.size w w'
end Go.Proofs.YtpmbgcfnehplaaaDoor
