/- Rows of Booleans of the call's own; the plain form of Chains. -/
import Derived.Test.YtinjjaahljkhdaaG2
namespace Go.Proofs.Ytinjjaahljkhdaa
open Go.RowKit

/-- The follower as a number. -/
def follI (nx : List Int) (a : Nat) : Int := idxV nx ((a : Int) + 1)
theorem follI_eq (nx : List Int) (a : Nat) : follI nx a = match foll nx a with | some b => (b : Int) | none => -1 := rfl
theorem follI_some {nx : List Int} {a b : Nat} (h : foll nx a = some b) : follI nx a = (b : Int) := by rw [follI_eq, h]
theorem follI_none {nx : List Int} {a : Nat} (h : foll nx a = none) : follI nx a = -1 := by rw [follI_eq, h]
/-- The followers behind k steps of the loop. -/
def foN (nx : List Int) (S k : Nat) : List Int := (List.range S).map fun a => if a < k then follI nx a else 0
theorem foN_length (nx : List Int) (S k : Nat) : (foN nx S k).length = S := by simp [foN]
theorem foN_get {nx : List Int} {S k i : Nat} (h : i < S) : (foN nx S k)[i]? = some (if i < k then follI nx i else 0) := by
  unfold foN
  rw [List.getElem?_map, List.getElem?_range h]; rfl
theorem foN_zero (nx : List Int) (S : Nat) : foN nx S 0 = List.replicate S 0 := by
  apply List.ext_getElem?
  intro i
  rcases Nat.lt_or_ge i S with h | h
  · rw [foN_get h, List.getElem?_replicate, if_pos h]; simp
  · rw [List.getElem?_eq_none (by rw [foN_length]; exact h), List.getElem?_eq_none (by simpa using h)]
theorem foN_succ {nx : List Int} {S k : Nat} (h : k < S) : foN nx S (k + 1) = (foN nx S k).set k (follI nx k) := by
  apply List.ext_getElem?
  intro i
  rw [List.getElem?_set, foN_length]
  rcases Nat.lt_or_ge i S with h1 | h1
  · rw [foN_get h1]
    by_cases e : k = i
    · subst e
      rw [if_pos rfl, if_pos h, if_pos (by omega)]
    · rw [if_neg e, foN_get h1]
      by_cases h2 : i < k
      · rw [if_pos h2, if_pos (by omega)]
      · rw [if_neg h2, if_neg (by omega)]
  · rw [List.getElem?_eq_none (by rw [foN_length]; exact h1), if_neg (by omega), List.getElem?_eq_none (by rw [foN_length]; exact h1)]
/-- Does b follow one of the first k states? -/
def ledB (nx : List Int) (k b : Nat) : Bool := (List.range k).any fun a => foll nx a == some b
theorem ledB_succ (nx : List Int) (k b : Nat) : ledB nx (k + 1) b = (ledB nx k b || foll nx k == some b) := by
  unfold ledB
  rw [List.range_succ, List.any_append]
  simp
def ldN (nx : List Int) (S k : Nat) : List Bool := (List.range S).map (ledB nx k)
theorem ldN_length (nx : List Int) (S k : Nat) : (ldN nx S k).length = S := by simp [ldN]
theorem ldN_get {nx : List Int} {S k i : Nat} (h : i < S) : (ldN nx S k)[i]? = some (ledB nx k i) := by
  unfold ldN
  rw [List.getElem?_map, List.getElem?_range h]; rfl
theorem ldN_zero (nx : List Int) (S : Nat) : ldN nx S 0 = List.replicate S false := by
  apply List.ext_getElem?
  intro i
  rcases Nat.lt_or_ge i S with h | h
  · rw [ldN_get h, List.getElem?_replicate, if_pos h]; rfl
  · rw [List.getElem?_eq_none (by rw [ldN_length]; exact h), List.getElem?_eq_none (by simpa using h)]
theorem ldN_some {nx : List Int} {S k b : Nat} (hb : b < S) (h : foll nx k = some b) : ldN nx S (k + 1) = (ldN nx S k).set b true := by
  apply List.ext_getElem?
  intro i
  rw [List.getElem?_set, ldN_length]
  rcases Nat.lt_or_ge i S with h1 | h1
  · rw [ldN_get h1, ledB_succ, h]
    by_cases e : b = i
    · subst e
      rw [if_pos rfl, if_pos hb]; simp
    · rw [if_neg e, ldN_get h1]
      have : (some b == some i) = false := by simpa using e
      rw [this, Bool.or_false]
  · rw [List.getElem?_eq_none (by rw [ldN_length]; exact h1), if_neg (by omega), List.getElem?_eq_none (by rw [ldN_length]; exact h1)]
theorem ldN_none {nx : List Int} {S k : Nat} (h : foll nx k = none) : ldN nx S (k + 1) = ldN nx S k := by
  unfold ldN
  refine List.map_congr_left fun i _ => ?_
  rw [ledB_succ, h]
  simp
theorem ledB_iff {nx : List Int} {s : Nat} : ledB nx nx.length s = true ↔ ledP nx s := by
  unfold ledB ledP
  rw [List.any_eq_true]
  constructor
  · rintro ⟨a, ha, h⟩
    exact ⟨a, List.mem_range.1 ha, by simpa using h⟩
  · rintro ⟨a, ha, h⟩
    exact ⟨a, List.mem_range.2 ha, by simpa using h⟩
/-- The lines of the first k states. -/
def lnF (nx : List Int) : Nat → List (List Int)
  | 0 => []
  | k + 1 => lnF nx k ++ (if ledB nx nx.length k then [] else [lineF nx k])
theorem lnF_led {nx : List Int} {k : Nat} (h : ledB nx nx.length k = true) : lnF nx (k + 1) = lnF nx k := by
  show lnF nx k ++ (if ledB nx nx.length k then [] else [lineF nx k]) = _
  rw [h]; simp
theorem lnF_new {nx : List Int} {k : Nat} (h : ledB nx nx.length k = false) : lnF nx (k + 1) = lnF nx k ++ [lineF nx k] := by
  show lnF nx k ++ (if ledB nx nx.length k then [] else [lineF nx k]) = _
  rw [h]; simp
theorem lnF_length (nx : List Int) : ∀ k, (lnF nx k).length ≤ k
  | 0 => Nat.le_refl _
  | k + 1 => by
    have := lnF_length nx k
    show (lnF nx k ++ (if ledB nx nx.length k then [] else [lineF nx k])).length ≤ k + 1
    rw [List.length_append]
    split <;> simp <;> omega
theorem info_bool : (Try.prog.info? 4).map (fun i => (i.zero, i.size, i.bytes)) = some (some (.bool false), 1, 1) := by kernel_rfl
/-- A slice of Booleans of the call's own. -/
def OwnT (base : Nat) (w : World) (g n : Nat) (l : List Bool) : Prop := w.ownsRow base 4 1 (.slice (some ⟨g, 0, none⟩) n n) n (l.map Value.bool) ∧ l.length = n
theorem OwnT.cell {base : Nat} {w : World} {g n : Nat} {l : List Bool} (h : OwnT base w g n l) {k : Nat} {y : Bool} (hk : l[k]? = some y) : w.cell? ⟨g, k, none⟩ = some (.bool y) := by
  have hkl := (List.getElem?_eq_some_iff.1 hk).1
  rw [h.1.cellAt k (by have := h.2; omega), List.getElem?_map, hk]; rfl
theorem OwnT.free {base : Nat} {w : World} {g n : Nat} {l : List Bool} (h : OwnT base w g n l) (k : Nat) : w.frozen? ⟨g, k, none⟩ = false := h.1.frozenAt k
theorem OwnT.block {base : Nat} {w : World} {g n : Nat} {l : List Bool} (h : OwnT base w g n l) : base ≤ g ∧ g < w.heap.size := h.1.lt g rfl
theorem OwnT.set {base : Nat} {w : World} {g n : Nat} {l : List Bool} (h : OwnT base w g n l) (k : Nat) (y : Bool) : OwnT base (w.setCell ⟨g, k, none⟩ (.bool y)) g n (l.set k y) :=
  ⟨by rw [List.map_set]; exact (h.1.stored k (.bool y)).1, by rw [List.length_set]; exact h.2⟩
theorem OwnT.grow {base : Nat} {w w' : World} {g n : Nat} {l : List Bool} (h : OwnT base w g n l) (hb : Below w.heap.size w w') : OwnT base w' g n l := ⟨own_grow h.1 hb, h.2⟩
theorem OwnT.other {base : Nat} {w : World} {g g' n k : Nat} {l : List Bool} {u : Value} (h : OwnT base w g n l) (hne : g' ≠ g) : OwnT base (w.setCell ⟨g', k, none⟩ u) g n l := by
  obtain ⟨⟨h1, h2 | ⟨q, cap, cur, hv, hq, hh, r⟩⟩, h3⟩ := h
  · exact ⟨⟨h1, .inl h2⟩, h3⟩
  · refine ⟨⟨h1, .inr ⟨q, cap, cur, hv, hq, ?_, r⟩⟩, h3⟩
    injection hv with e _ _
    injection e with e
    injection e with e
    exact (Below.heap_setCell w _ u q (by show q ≠ g'; omega)).trans hh
theorem falses_cells (n : Nat) : (madeCells (Value.bool false).cells (n * 1)).toList = (List.replicate n false).map Value.bool := by
  apply List.ext_getElem?
  intro k
  simp only [madeCells, Value.cells, Array.toList_map, Array.toList_range, List.getElem?_map, List.getElem?_replicate, Nat.mul_one]
  rcases Nat.lt_or_ge k n with h | h
  · rw [List.getElem?_range h]; simp [h, Nat.mod_one]
  · rw [List.getElem?_eq_none (by simpa using h)]; simp; omega
/-- make([]bool, n). -/
theorem mk_bool {ops : Array Oper} {rest : List Oper} {o : Oper} {a : Act} {Q : Exit → Act → World → Prop} {w : World} (hg : o.guard = none) (s c : Operand) (hop : o.op = Op.makeSlice 59 s c)
    (base n : Nat) {N : Int} (hs : a.eval s = .int .i64 N) (hc : a.eval c = .int .i64 N) (hN : N = (n : Int)) (hn : n ≤ 100000000) (hb : base ≤ w.heap.size)
    (h : ∀ w', OwnT base w' w.heap.size n (List.replicate n false) → Below w.heap.size w w' → wpList Try.prog ops Q rest (a.put o.dst (.slice (some ⟨w.heap.size, 0, none⟩) n n)) w') :
    wpList Try.prog ops Q (o :: rest) a w := by
  subst hN
  obtain ⟨i0, hi, hz0, hz1, hz2⟩ := info_parts info_bool
  refine wpList_make_full w hg s c 59 hop base 4 i0 (.bool false) 1 Try.underlying59 hi hz0 hz1 .i64 .i64 n n n hs hc rfl rfl (by rw [hz2]; omega) (by unfold maxLen; omega) hb fun w' h1 h2 => h w' ⟨?_, ?_⟩ ?_
  · rw [← falses_cells]; exact h1
  · simp
  · exact (Below.refl _ _).grown h2 (Nat.le_refl _) (by intro k hk; cases hk)
end Go.Proofs.Ytinjjaahljkhdaa
