/- Several texts in one: G1 G2 G3 G4 G5 G6 G7 G8 G9 G10. -/
import Derived.Test.YtpmbgcfnehplaaaDoorPq
import Derived.Test.YtpmbgcfnehplaaaDoorPs
section
/- Plain laws of delay lines: who follows whom, and why a line ends. -/
set_option linter.unusedVariables false
set_option linter.unusedSimpArgs false
namespace Go.Proofs.YtpmbgcfnehplaaaDoor

theorem pigeon : ∀ (S k : Nat) (f : Nat → Nat), (∀ i, i ≤ k → f i < S) → (∀ i j, i ≤ k → j ≤ k → f i = f j → i = j) → k < S
  | 0, _, _, h, _ => absurd (h 0 (Nat.zero_le _)) (Nat.not_lt_zero _)
  | S + 1, 0, _, _, _ => Nat.succ_pos _
  | S + 1, k + 1, f, h, inj => by
    have key : k < S := by
      refine pigeon S k (fun i => if f i = S then f (k + 1) else f i) ?_ ?_
      · intro i hi
        show (if f i = S then f (k + 1) else f i) < S
        split
        · rename_i hs
          have h1 := h (k + 1) (Nat.le_refl _)
          have h2 : f (k + 1) ≠ S := fun e => by have := inj i (k + 1) (by omega) (Nat.le_refl _) (hs.trans e.symm); omega
          omega
        · have := h i (by omega); omega
      · intro i j hi hj
        show (if f i = S then f (k + 1) else f i) = (if f j = S then f (k + 1) else f j) → i = j
        split <;> split
        · rename_i h1 h2
          exact fun _ => inj i j (by omega) (by omega) (h1.trans h2.symm)
        · intro e
          have := inj (k + 1) j (Nat.le_refl _) (by omega) e
          omega
        · intro e
          have := inj i (k + 1) (by omega) (Nat.le_refl _) e
          omega
        · exact fun e => inj i j (by omega) (by omega) e
    omega
/-- The state that follows state a: the first one whose value is a's. -/
def foll (nx : List Int) (a : Nat) : Option Nat := nx.findIdx? (fun v => v == (a : Int) + 1)
theorem foll_some {nx : List Int} {a b : Nat} (h : foll nx a = some b) : nx[b]? = some ((a : Int) + 1) ∧ ∀ j, j < b → nx[j]? ≠ some ((a : Int) + 1) := by
  unfold foll at h
  obtain ⟨hb, h1, h2⟩ := List.findIdx?_eq_some_iff_getElem.1 h
  refine ⟨by rw [List.getElem?_eq_getElem hb]; simpa using h1, fun j hj e => ?_⟩
  have hjl : j < nx.length := by omega
  have := h2 j hj
  rw [List.getElem?_eq_getElem hjl] at e
  injection e with e
  simp [e] at this
theorem foll_none {nx : List Int} {a : Nat} (h : foll nx a = none) : ∀ j : Nat, nx[j]? ≠ some ((a : Int) + 1) := by
  unfold foll at h
  intro j e
  have := List.findIdx?_eq_none_iff.1 h ((a : Int) + 1) (List.mem_of_getElem? e)
  simp at this
theorem foll_lt {nx : List Int} {a b : Nat} (h : foll nx a = some b) : b < nx.length := (List.getElem?_eq_some_iff.1 (foll_some h).1).1
theorem foll_inj {nx : List Int} {a a' b : Nat} (h : foll nx a = some b) (h' : foll nx a' = some b) : a = a' := by
  have h1 := (foll_some h).1
  rw [(foll_some h').1] at h1
  injection h1 with h1
  omega
/-- State s follows some state. -/
def ledP (nx : List Int) (s : Nat) : Prop := ∃ a, a < nx.length ∧ foll nx a = some s
/-- The k-th state of the line that begins at s. -/
def itF (nx : List Int) (s : Nat) : Nat → Option Nat
  | 0 => some s
  | k + 1 => (itF nx s k).bind (foll nx)
theorem it_lt {nx : List Int} {s : Nat} (hs : s < nx.length) : ∀ k x, itF nx s k = some x → x < nx.length
  | 0, x, h => by injection h with h; omega
  | k + 1, x, h => by
    obtain ⟨y, _, h2⟩ := Option.bind_eq_some_iff.1 h
    exact foll_lt h2
theorem it_down {nx : List Int} {s k : Nat} {x : Nat} (h : itF nx s (k + 1) = some x) : ∃ y, itF nx s k = some y ∧ foll nx y = some x := by
  obtain ⟨y, h1, h2⟩ := Option.bind_eq_some_iff.1 h
  exact ⟨y, h1, h2⟩
theorem it_some {nx : List Int} {s : Nat} : ∀ {k j x}, itF nx s k = some x → j ≤ k → ∃ y, itF nx s j = some y
  | 0, j, x, h, hj => ⟨x, by rw [show j = 0 by omega]; exact h⟩
  | k + 1, j, x, h, hj => by
    rcases Nat.lt_or_ge k j with h1 | h1
    · exact ⟨x, by rw [show j = k + 1 by omega]; exact h⟩
    · obtain ⟨y, h2, _⟩ := it_down h
      exact it_some h2 h1
/-- A line that begins at a state that follows none meets no state twice. -/
theorem it_ne {nx : List Int} {s : Nat} (hs : s < nx.length) (hl : ¬ ledP nx s) : ∀ i d x, itF nx s i = some x → itF nx s (i + d + 1) ≠ some x
  | 0, d, x, h, h2 => by
    injection h with h
    subst h
    obtain ⟨y, h3, h4⟩ := it_down (k := 0 + d) h2
    exact hl ⟨y, it_lt hs _ _ h3, h4⟩
  | i + 1, d, x, h, h2 => by
    obtain ⟨y, h3, h4⟩ := it_down h
    rw [show i + 1 + d + 1 = (i + d + 1) + 1 by omega] at h2
    obtain ⟨z, h5, h6⟩ := it_down h2
    have e := foll_inj h4 h6
    subst e
    exact it_ne hs hl i d y h3 h5
theorem it_short {nx : List Int} {s : Nat} (hs : s < nx.length) (hl : ¬ ledP nx s) {k x : Nat} (h : itF nx s k = some x) : k < nx.length := by
  refine pigeon nx.length k (fun i => (itF nx s i).getD 0) ?_ ?_
  · intro i hi
    obtain ⟨y, hy⟩ := it_some h hi
    simp only [hy, Option.getD_some]
    exact it_lt hs i y hy
  · have main : ∀ i j, i < j → j ≤ k → (itF nx s i).getD 0 ≠ (itF nx s j).getD 0 := by
      intro i j hij hj e
      obtain ⟨y, hy⟩ := it_some h (show i ≤ k by omega)
      obtain ⟨z, hz⟩ := it_some h hj
      rw [hy, hz] at e
      simp at e
      subst e
      exact it_ne hs hl i (j - i - 1) y hy (by rw [show i + (j - i - 1) + 1 = j by omega]; exact hz)
    intro i j hi hj e
    rcases Nat.lt_trichotomy i j with h1 | h1 | h1
    · exact absurd e (main i j h1 hj)
    · exact h1
    · exact absurd e.symm (main j i h1 hi)
/-- The first k states of a line. -/
def preF (nx : List Int) (s : Nat) : Nat → List Int
  | 0 => []
  | k + 1 => preF nx s k ++ (match itF nx s k with | some x => [(x : Int)] | none => [])
/-- The line. -/
def lineF (nx : List Int) (s : Nat) : List Int := preF nx s nx.length
theorem pre_some {nx : List Int} {s k x : Nat} (h : itF nx s k = some x) : preF nx s (k + 1) = preF nx s k ++ [(x : Int)] := by
  show preF nx s k ++ (match itF nx s k with | some x => [(x : Int)] | none => []) = _
  rw [h]
theorem it_none {nx : List Int} {s k : Nat} (h : itF nx s k = none) : ∀ d, itF nx s (k + d) = none
  | 0 => h
  | d + 1 => by
    show (itF nx s (k + d)).bind (foll nx) = none
    rw [it_none h d]; rfl
theorem pre_end {nx : List Int} {s k : Nat} (h : itF nx s k = none) : ∀ d, preF nx s (k + d) = preF nx s k
  | 0 => rfl
  | d + 1 => by
    show preF nx s (k + d) ++ (match itF nx s (k + d) with | some x => [(x : Int)] | none => []) = _
    rw [it_none h d, pre_end h d]
    simp
theorem pre_line {nx : List Int} {s k : Nat} (h : itF nx s k = none) (hk : k ≤ nx.length) : preF nx s k = lineF nx s := by
  unfold lineF
  have := pre_end h (nx.length - k)
  rw [show k + (nx.length - k) = nx.length by omega] at this
  exact this.symm
theorem pre_length {nx : List Int} {s : Nat} : ∀ {k x}, itF nx s k = some x → (preF nx s (k + 1)).length = k + 1
  | 0, x, h => by rw [pre_some h]; simp [preF]
  | k + 1, x, h => by
    obtain ⟨y, h1, _⟩ := it_down h
    rw [pre_some h, List.length_append, pre_length h1]; rfl
end Go.Proofs.YtpmbgcfnehplaaaDoor
end
section
/- The walk of slices.Index; words for delay lines in the heap. -/
set_option linter.unusedVariables false
set_option linter.unusedSimpArgs false
namespace Go.Proofs.YtpmbgcfnehplaaaDoor
open Go.RowKit

/-- The first place of v in l, or -1. -/
def idxV (l : List Int) (v : Int) : Int := match l.findIdx? (fun x => x == v) with | some b => (b : Int) | none => -1
theorem idx_found {l : List Int} {v : Int} {k : Nat} (hk : l[k]? = some v) (h : ∀ j, j < k → l[j]? ≠ some v) : idxV l v = (k : Int) := by
  have e : l.findIdx? (fun x => x == v) = some k := by
    obtain ⟨hb, h1⟩ := List.getElem?_eq_some_iff.1 hk
    refine List.findIdx?_eq_some_iff_getElem.2 ⟨hb, by simp [h1], fun j hj => ?_⟩
    have := h j hj
    rw [List.getElem?_eq_getElem (by omega)] at this
    simpa using this
  unfold idxV
  rw [e]
theorem idx_none {l : List Int} {v : Int} (h : ∀ j, j < l.length → l[j]? ≠ some v) : idxV l v = -1 := by
  have e : l.findIdx? (fun x => x == v) = none := by
    refine List.findIdx?_eq_none_iff.2 fun x hx => ?_
    obtain ⟨j, hj, rfl⟩ := List.getElem_of_mem hx
    have := h j hj
    rw [List.getElem?_eq_getElem hj] at this
    simpa using this
  unfold idxV
  rw [e]
set_option maxRecDepth 100000 in
theorem sl_Index (A : Option Addr) (l : List Int) (c n : Nat) (v : Int) (w : World) (hn : l.length = n) (hl : n ≤ 9223372036854775807) (h : Ints w A l) :
    Calls Tryd.prog 66 #[.slice A n c, .int .i64 v] w fun e w' => e = .returned (.int .i64 (idxV l v)) ∧ w = w' := by
  have HN := Lib.hid hn
  clear hn
  go_enter Tryd.func66, Tryd.ntmps66
  go_wp2
  go_loop [5, 8] (fun _ i => ∃ k : Nat, k ≤ n ∧ i = .int .i64 k ∧ Hid (∀ j, j < k → l[j]? ≠ some v)) (fun _ i => n - (intOf i).toNat)
  case atStart => exact ⟨0, Nat.zero_le _, rfl, fun j hj => absurd hj (Nat.not_lt_zero _)⟩
  case round =>
    obtain ⟨k, hk, rfl, HA⟩ := hrel
    by_cases hlt : k < n
    · obtain ⟨ad, x, rfl, hb, hx, hc, i1, i2⟩ := h.at_ (k := k) (by have := HN.out; omega)
      by_cases he : v = x
      · subst he
        have HI := Lib.hid (idx_found hx HA.out)
        clear hx
        go_wp2
        go_ret
        exact ⟨ret_int HI.out.symm, rfl⟩
      · have HX := Lib.hid hx
        clear hx
        go_wp2
        go_round
        case rel => exact ⟨k + 1, by omega, by go_num, fun j hj e => by
          rcases Nat.lt_or_ge j k with h1 | h1
          · exact HA.out j h1 e
          · obtain rfl : j = k := by omega
            rw [HX.out] at e
            injection e with e
            exact he e.symm⟩
        case measure => simp [intOf]; omega
    · have HI := Lib.hid (idx_none (l := l) (v := v) fun j hj => HA.out j (by have := HN.out; omega))
      go_wp2
      go_ret
      exact ⟨ret_int HI.out.symm, rfl⟩
end Go.Proofs.YtpmbgcfnehplaaaDoor
end
section
/- Rows of Booleans of the call's own; the plain form of Chains. -/
set_option linter.unusedVariables false
set_option linter.unusedSimpArgs false
namespace Go.Proofs.YtpmbgcfnehplaaaDoor
open Go.RowKit

/-- The follower as a number. -/
def follI (nx : List Int) (a : Nat) : Int := idxV nx ((a : Int) + 1)
theorem follI_eq (nx : List Int) (a : Nat) : follI nx a = match foll nx a with | some b => (b : Int) | none => -1 := rfl
theorem follI_some {nx : List Int} {a b : Nat} (h : foll nx a = some b) : follI nx a = (b : Int) := by rw [follI_eq, h]
theorem follI_none {nx : List Int} {a : Nat} (h : foll nx a = none) : follI nx a = -1 := by rw [follI_eq, h]
/-- The followers behind k steps of the loop. -/
def foN (nx : List Int) (S k : Nat) : List Int := (List.range S).map fun a => if a < k then follI nx a else 0
theorem foN_length (nx : List Int) (S k : Nat) : (foN nx S k).length = S := by simp [foN]
theorem foN_get {nx : List Int} {S k i : Nat} (h : i < S) : (foN nx S k)[i]? = some (if i < k then follI nx i else 0) := by
  unfold foN
  rw [List.getElem?_map, List.getElem?_range h]; rfl
theorem foN_zero (nx : List Int) (S : Nat) : foN nx S 0 = List.replicate S 0 := by
  apply List.ext_getElem?
  intro i
  rcases Nat.lt_or_ge i S with h | h
  · rw [foN_get h, List.getElem?_replicate, if_pos h]; simp
  · rw [List.getElem?_eq_none (by rw [foN_length]; exact h), List.getElem?_eq_none (by simpa using h)]
theorem foN_succ {nx : List Int} {S k : Nat} (h : k < S) : foN nx S (k + 1) = (foN nx S k).set k (follI nx k) := by
  apply List.ext_getElem?
  intro i
  rw [List.getElem?_set, foN_length]
  rcases Nat.lt_or_ge i S with h1 | h1
  · rw [foN_get h1]
    by_cases e : k = i
    · subst e
      rw [if_pos rfl, if_pos h, if_pos (by omega)]
    · rw [if_neg e, foN_get h1]
      by_cases h2 : i < k
      · rw [if_pos h2, if_pos (by omega)]
      · rw [if_neg h2, if_neg (by omega)]
  · rw [List.getElem?_eq_none (by rw [foN_length]; exact h1), if_neg (by omega), List.getElem?_eq_none (by rw [foN_length]; exact h1)]
/-- Does b follow one of the first k states? -/
def ledB (nx : List Int) (k b : Nat) : Bool := (List.range k).any fun a => foll nx a == some b
theorem ledB_succ (nx : List Int) (k b : Nat) : ledB nx (k + 1) b = (ledB nx k b || foll nx k == some b) := by
  unfold ledB
  rw [List.range_succ, List.any_append]
  simp
def ldN (nx : List Int) (S k : Nat) : List Bool := (List.range S).map (ledB nx k)
theorem ldN_length (nx : List Int) (S k : Nat) : (ldN nx S k).length = S := by simp [ldN]
theorem ldN_get {nx : List Int} {S k i : Nat} (h : i < S) : (ldN nx S k)[i]? = some (ledB nx k i) := by
  unfold ldN
  rw [List.getElem?_map, List.getElem?_range h]; rfl
theorem ldN_zero (nx : List Int) (S : Nat) : ldN nx S 0 = List.replicate S false := by
  apply List.ext_getElem?
  intro i
  rcases Nat.lt_or_ge i S with h | h
  · rw [ldN_get h, List.getElem?_replicate, if_pos h]; rfl
  · rw [List.getElem?_eq_none (by rw [ldN_length]; exact h), List.getElem?_eq_none (by simpa using h)]
theorem ldN_some {nx : List Int} {S k b : Nat} (hb : b < S) (h : foll nx k = some b) : ldN nx S (k + 1) = (ldN nx S k).set b true := by
  apply List.ext_getElem?
  intro i
  rw [List.getElem?_set, ldN_length]
  rcases Nat.lt_or_ge i S with h1 | h1
  · rw [ldN_get h1, ledB_succ, h]
    by_cases e : b = i
    · subst e
      rw [if_pos rfl, if_pos hb]; simp
    · rw [if_neg e, ldN_get h1]
      have : (some b == some i) = false := by simpa using e
      rw [this, Bool.or_false]
  · rw [List.getElem?_eq_none (by rw [ldN_length]; exact h1), if_neg (by omega), List.getElem?_eq_none (by rw [ldN_length]; exact h1)]
theorem ldN_none {nx : List Int} {S k : Nat} (h : foll nx k = none) : ldN nx S (k + 1) = ldN nx S k := by
  unfold ldN
  refine List.map_congr_left fun i _ => ?_
  rw [ledB_succ, h]
  simp
theorem ledB_iff {nx : List Int} {s : Nat} : ledB nx nx.length s = true ↔ ledP nx s := by
  unfold ledB ledP
  rw [List.any_eq_true]
  constructor
  · rintro ⟨a, ha, h⟩
    exact ⟨a, List.mem_range.1 ha, by simpa using h⟩
  · rintro ⟨a, ha, h⟩
    exact ⟨a, List.mem_range.2 ha, by simpa using h⟩
/-- The lines of the first k states. -/
def lnF (nx : List Int) : Nat → List (List Int)
  | 0 => []
  | k + 1 => lnF nx k ++ (if ledB nx nx.length k then [] else [lineF nx k])
theorem lnF_led {nx : List Int} {k : Nat} (h : ledB nx nx.length k = true) : lnF nx (k + 1) = lnF nx k := by
  show lnF nx k ++ (if ledB nx nx.length k then [] else [lineF nx k]) = _
  rw [h]; simp
theorem lnF_new {nx : List Int} {k : Nat} (h : ledB nx nx.length k = false) : lnF nx (k + 1) = lnF nx k ++ [lineF nx k] := by
  show lnF nx k ++ (if ledB nx nx.length k then [] else [lineF nx k]) = _
  rw [h]; simp
theorem lnF_length (nx : List Int) : ∀ k, (lnF nx k).length ≤ k
  | 0 => Nat.le_refl _
  | k + 1 => by
    have := lnF_length nx k
    show (lnF nx k ++ (if ledB nx nx.length k then [] else [lineF nx k])).length ≤ k + 1
    rw [List.length_append]
    split <;> simp <;> omega
theorem info_bool : (Tryd.prog.info? 4).map (fun i => (i.zero, i.size, i.bytes)) = some (some (.bool false), 1, 1) := by kernel_rfl
/-- A slice of Booleans of the call's own. -/
def OwnT (base : Nat) (w : World) (g n : Nat) (l : List Bool) : Prop := w.ownsRow base 4 1 (.slice (some ⟨g, 0, none⟩) n n) n (l.map Value.bool) ∧ l.length = n
theorem OwnT.cell {base : Nat} {w : World} {g n : Nat} {l : List Bool} (h : OwnT base w g n l) {k : Nat} {y : Bool} (hk : l[k]? = some y) : w.cell? ⟨g, k, none⟩ = some (.bool y) := by
  have hkl := (List.getElem?_eq_some_iff.1 hk).1
  rw [h.1.cellAt k (by have := h.2; omega), List.getElem?_map, hk]; rfl
theorem OwnT.free {base : Nat} {w : World} {g n : Nat} {l : List Bool} (h : OwnT base w g n l) (k : Nat) : w.frozen? ⟨g, k, none⟩ = false := h.1.frozenAt k
theorem OwnT.block {base : Nat} {w : World} {g n : Nat} {l : List Bool} (h : OwnT base w g n l) : base ≤ g ∧ g < w.heap.size := h.1.lt g rfl
theorem OwnT.set {base : Nat} {w : World} {g n : Nat} {l : List Bool} (h : OwnT base w g n l) (k : Nat) (y : Bool) : OwnT base (w.setCell ⟨g, k, none⟩ (.bool y)) g n (l.set k y) :=
  ⟨by rw [List.map_set]; exact (h.1.stored k (.bool y)).1, by rw [List.length_set]; exact h.2⟩
theorem OwnT.grow {base : Nat} {w w' : World} {g n : Nat} {l : List Bool} (h : OwnT base w g n l) (hb : Below w.heap.size w w') : OwnT base w' g n l := ⟨own_grow h.1 hb, h.2⟩
theorem OwnT.other {base : Nat} {w : World} {g g' n k : Nat} {l : List Bool} {u : Value} (h : OwnT base w g n l) (hne : g' ≠ g) : OwnT base (w.setCell ⟨g', k, none⟩ u) g n l := by
  obtain ⟨⟨h1, h2 | ⟨q, cap, cur, hv, hq, hh, r⟩⟩, h3⟩ := h
  · exact ⟨⟨h1, .inl h2⟩, h3⟩
  · refine ⟨⟨h1, .inr ⟨q, cap, cur, hv, hq, ?_, r⟩⟩, h3⟩
    injection hv with e _ _
    injection e with e
    injection e with e
    exact (Below.heap_setCell w _ u q (by show q ≠ g'; omega)).trans hh
theorem falses_cells (n : Nat) : (madeCells (Value.bool false).cells (n * 1)).toList = (List.replicate n false).map Value.bool := by
  apply List.ext_getElem?
  intro k
  simp only [madeCells, Value.cells, Array.toList_map, Array.toList_range, List.getElem?_map, List.getElem?_replicate, Nat.mul_one]
  rcases Nat.lt_or_ge k n with h | h
  · rw [List.getElem?_range h]; simp [h, Nat.mod_one]
  · rw [List.getElem?_eq_none (by simpa using h)]; simp; omega
/-- make([]bool, n). -/
theorem mk_bool {ops : Array Oper} {rest : List Oper} {o : Oper} {a : Act} {Q : Exit → Act → World → Prop} {w : World} (hg : o.guard = none) (s c : Operand) (hop : o.op = Op.makeSlice 75 s c)
    (base n : Nat) {N : Int} (hs : a.eval s = .int .i64 N) (hc : a.eval c = .int .i64 N) (hN : N = (n : Int)) (hn : n ≤ 100000000) (hb : base ≤ w.heap.size)
    (h : ∀ w', OwnT base w' w.heap.size n (List.replicate n false) → Below w.heap.size w w' → wpList Tryd.prog ops Q rest (a.put o.dst (.slice (some ⟨w.heap.size, 0, none⟩) n n)) w') :
    wpList Tryd.prog ops Q (o :: rest) a w := by
  subst hN
  obtain ⟨i0, hi, hz0, hz1, hz2⟩ := info_parts info_bool
  refine wpList_make_full w hg s c 75 hop base 4 i0 (.bool false) 1 Tryd.underlying75 hi hz0 hz1 .i64 .i64 n n n hs hc rfl rfl (by rw [hz2]; omega) (by unfold maxLen; omega) hb fun w' h1 h2 => h w' ⟨?_, ?_⟩ ?_
  · rw [← falses_cells]; exact h1
  · simp
  · exact (Below.refl _ _).grown h2 (Nat.le_refl _) (by intro k hk; cases hk)
end Go.Proofs.YtpmbgcfnehplaaaDoor
end
section
/- The walk of Chains of package codegen. -/
set_option linter.unusedVariables false
set_option linter.unusedSimpArgs false
namespace Go.Proofs.YtpmbgcfnehplaaaDoor
open Go.RowKit

def BoolBw (w : World) (b : Bool) (e : Ending) (w' : World) : Prop := e = .returned (.bool b) ∧ Below w.heap.size w w'
/-- A network as a value. -/
abbrev netV (d0 d1 d2 d3 c0 c1 c2 c3 st : Int) (NA : Option Addr) (nn nc : Nat) (XA : Option Addr) (xn xc : Nat) (out : Int) : Value :=
  .agg #[.int .i64 d0, .int .i64 d1, .int .i64 d2, .int .i64 d3, .int .i64 c0, .int .i64 c1, .int .i64 c2, .int .i64 c3, .int .i64 st, .slice NA nn nc, .slice XA xn xc, .int .i64 out]
end Go.Proofs.YtpmbgcfnehplaaaDoor
end
section
/- The plain form of the loops of the reference's Chains. -/
set_option linter.unusedVariables false
set_option linter.unusedSimpArgs false
namespace Go.Proofs.YtpmbgcfnehplaaaDoor
open Go.RowKit

/-- The first state from j on that follows a, or -1. -/
def bhI (nx : List Int) (j a : Nat) : Int := match (nx.drop j).findIdx? (fun v => v == (a : Int) + 1) with | some i => ((j + i : Nat) : Int) | none => -1
theorem bhI_zero (nx : List Int) (a : Nat) : bhI nx 0 a = follI nx a := by
  unfold bhI follI idxV
  rw [List.drop_zero]
  cases nx.findIdx? (fun v => v == (a : Int) + 1) with
  | none => rfl
  | some i => simp
theorem bhI_end {nx : List Int} {j a : Nat} (h : nx.length ≤ j) : bhI nx j a = -1 := by
  unfold bhI
  rw [List.drop_of_length_le h]; rfl
theorem bhI_step {nx : List Int} {J a : Nat} {v : Int} (h : nx[J]? = some v) : bhI nx J a = if v = (a : Int) + 1 then (J : Int) else bhI nx (J + 1) a := by
  obtain ⟨hJ, h1⟩ := List.getElem?_eq_some_iff.1 h
  unfold bhI
  rw [List.drop_eq_getElem_cons hJ, h1, List.findIdx?_cons]
  by_cases e : v = (a : Int) + 1
  · rw [if_pos e]
    have : (v == (a : Int) + 1) = true := by simpa using e
    rw [this]; simp
  · rw [if_neg e]
    have : (v == (a : Int) + 1) = false := by simpa using e
    rw [this]
    simp only [Bool.false_eq_true, if_false]
    cases (nx.drop (J + 1)).findIdx? (fun v => v == (a : Int) + 1) with
    | none => rfl
    | some i =>
      simp only [Option.map_some]
      show ((J + (i + 1) : Nat) : Int) = ((J + 1 + i : Nat) : Int)
      congr 1; omega
def bhN (nx : List Int) (S j : Nat) : List Int := (List.range S).map (bhI nx j)
theorem bhN_length (nx : List Int) (S j : Nat) : (bhN nx S j).length = S := by simp [bhN]
theorem bhN_get {nx : List Int} {S j i : Nat} (h : i < S) : (bhN nx S j)[i]? = some (bhI nx j i) := by
  unfold bhN
  rw [List.getElem?_map, List.getElem?_range h]; rfl
theorem bhN_end {nx : List Int} {S j : Nat} (h : nx.length ≤ j) : bhN nx S j = List.replicate S (-1) := by
  apply List.ext_getElem?
  intro i
  rcases Nat.lt_or_ge i S with h1 | h1
  · rw [bhN_get h1, bhI_end h, List.getElem?_replicate, if_pos h1]
  · rw [List.getElem?_eq_none (by rw [bhN_length]; exact h1), List.getElem?_eq_none (by simpa using h1)]
theorem bhN_zero (nx : List Int) (S : Nat) : bhN nx S 0 = foN nx S S := by
  unfold bhN foN
  refine List.map_congr_left fun a ha => ?_
  rw [bhI_zero, if_pos (List.mem_range.1 ha)]
theorem bhN_in {nx : List Int} {S J c : Nat} {v : Int} (h : nx[J]? = some v) (hc : v - 1 = (c : Int)) (hS : c < S) : bhN nx S J = (bhN nx S (J + 1)).set c (J : Int) := by
  apply List.ext_getElem?
  intro i
  rw [List.getElem?_set, bhN_length]
  rcases Nat.lt_or_ge i S with h1 | h1
  · rw [bhN_get h1, bhI_step h]
    by_cases e : c = i
    · subst e
      rw [if_pos (by omega), if_pos rfl, if_pos hS]
    · rw [if_neg (by omega), if_neg e, bhN_get h1]
  · rw [List.getElem?_eq_none (by rw [bhN_length]; exact h1), if_neg (by omega), List.getElem?_eq_none (by rw [bhN_length]; exact h1)]
theorem bhN_out {nx : List Int} {S J : Nat} {v : Int} (h : nx[J]? = some v) (hv : ¬ (0 ≤ v - 1 ∧ v - 1 ≤ (S : Int) - 1)) : bhN nx S J = bhN nx S (J + 1) := by
  unfold bhN
  refine List.map_congr_left fun a ha => ?_
  have := List.mem_range.1 ha
  rw [bhI_step h, if_neg (by omega)]
/-- The row of -1 while it is filled. -/
def mnN (S k : Nat) : List Int := (List.range S).map fun a => if a < k then -1 else 0
theorem mnN_length (S k : Nat) : (mnN S k).length = S := by simp [mnN]
theorem mnN_get {S k i : Nat} (h : i < S) : (mnN S k)[i]? = some (if i < k then -1 else 0) := by
  unfold mnN
  rw [List.getElem?_map, List.getElem?_range h]; rfl
theorem mnN_zero (S : Nat) : mnN S 0 = List.replicate S 0 := by
  apply List.ext_getElem?
  intro i
  rcases Nat.lt_or_ge i S with h1 | h1
  · rw [mnN_get h1, List.getElem?_replicate, if_pos h1]; simp
  · rw [List.getElem?_eq_none (by rw [mnN_length]; exact h1), List.getElem?_eq_none (by simpa using h1)]
theorem mnN_end (S : Nat) : mnN S S = List.replicate S (-1) := by
  apply List.ext_getElem?
  intro i
  rcases Nat.lt_or_ge i S with h1 | h1
  · rw [mnN_get h1, if_pos h1, List.getElem?_replicate, if_pos h1]
  · rw [List.getElem?_eq_none (by rw [mnN_length]; exact h1), List.getElem?_eq_none (by simpa using h1)]
theorem mnN_succ {S k : Nat} (h : k < S) : mnN S (k + 1) = (mnN S k).set k (-1) := by
  apply List.ext_getElem?
  intro i
  rw [List.getElem?_set, mnN_length]
  rcases Nat.lt_or_ge i S with h1 | h1
  · rw [mnN_get h1]
    by_cases e : k = i
    · subst e
      rw [if_pos rfl, if_pos h, if_pos (by omega)]
    · rw [if_neg e, mnN_get h1]
      by_cases h2 : i < k
      · rw [if_pos h2, if_pos (by omega)]
      · rw [if_neg h2, if_neg (by omega)]
  · rw [List.getElem?_eq_none (by rw [mnN_length]; exact h1), if_neg (by omega), List.getElem?_eq_none (by rw [mnN_length]; exact h1)]
end Go.Proofs.YtpmbgcfnehplaaaDoor
end
section
/- The walk of Chains of the reference. -/
set_option linter.unusedVariables false
set_option linter.unusedSimpArgs false
namespace Go.Proofs.YtpmbgcfnehplaaaDoor
open Go.RowKit

theorem pre_len2 {nx : List Int} {s j x : Nat} (h : itF nx s j = some x) : (preF nx s j).length = j := by
  cases j with
  | zero => rfl
  | succ j =>
    obtain ⟨y, h1, _⟩ := it_down h
    exact pre_length h1
end Go.Proofs.YtpmbgcfnehplaaaDoor
end
section
/- Networks in the heap: terms of two cells, nodes of one; when a network is valid. -/
set_option linter.unusedVariables false
set_option linter.unusedSimpArgs false
namespace Go.Proofs.YtpmbgcfnehplaaaDoor
open Go.RowKit

/-- A slice of terms (from, coefficient) that reads as ts. -/
def TermsAt (w : World) (A : Option Addr) (ts : List (Int × Int)) : Prop :=
  ∀ (k : Nat) t, ts[k]? = some t → ∃ ad, A = some ad ∧ ad.block < w.heap.size ∧ w.cell? (ad.add (k * 2)) = some (.int .i64 t.1) ∧ w.cell? ⟨(ad.add (k * 2)).block, (ad.add (k * 2)).off + 1, none⟩ = some (.int .i64 t.2) ∧ I64 t.1 ∧ I64 t.2
/-- A slice of nodes that reads as ns. -/
def NodesAt (w : World) (A : Option Addr) (ns : List (List (Int × Int))) : Prop :=
  ∀ (k : Nat) ts, ns[k]? = some ts → ∃ ad B c, A = some ad ∧ ad.block < w.heap.size ∧ w.cell? (ad.add k) = some (.slice B ts.length c) ∧ TermsAt w B ts
theorem TermsAt.nil {w : World} {A : Option Addr} : TermsAt w A [] := fun k t h => by simp at h
theorem NodesAt.nil {w : World} {A : Option Addr} : NodesAt w A [] := fun k t h => by simp at h
theorem TermsAt.grow {w w' : World} {A : Option Addr} {ts : List (Int × Int)} (h : TermsAt w A ts) (hb : Below w.heap.size w w') : TermsAt w' A ts := fun k t hk => by
  obtain ⟨ad, e, h1, c0, c1, i1, i2⟩ := h k t hk
  exact ⟨ad, e, Nat.lt_of_lt_of_le h1 hb.size, (hb.cell (by rw [block_add]; exact h1)).trans c0, (hb.cell (by show (ad.add _).block < _; rw [block_add]; exact h1)).trans c1, i1, i2⟩
theorem NodesAt.grow {w w' : World} {A : Option Addr} {ns : List (List (Int × Int))} (h : NodesAt w A ns) (hb : Below w.heap.size w w') : NodesAt w' A ns := fun k ts hk => by
  obtain ⟨ad, B, c, e, h1, c0, ht⟩ := h k ts hk
  exact ⟨ad, B, c, e, Nat.lt_of_lt_of_le h1 hb.size, (hb.cell (by rw [block_add]; exact h1)).trans c0, ht.grow hb⟩
/-- A term of node k of a network of s states is valid. -/
def termB (c0 c1 c2 c3 : Int) (last : Int) (t : Int × Int) : Bool := inB t.1 0 last && (fitsW c0 c1 c2 c3 t.2 || t.2 == (2 : Int) ^ c1.toNat)
def nodeB (c0 c1 c2 c3 : Int) (last : Int) (ts : List (Int × Int)) : Bool := decide (ts.length ≤ 64) && ts.all (termB c0 c1 c2 c3 last)
/-- The first k nodes are valid. -/
def nodesB (c0 c1 c2 c3 st : Int) (ns : List (List (Int × Int))) (k : Nat) : Bool := (List.range k).all fun i => match ns[i]? with | some ts => nodeB c0 c1 c2 c3 (st + i) ts | none => true
theorem nodesB_succ {c0 c1 c2 c3 st : Int} {ns : List (List (Int × Int))} {k : Nat} {ts : List (Int × Int)} (h : ns[k]? = some ts) : nodesB c0 c1 c2 c3 st ns (k + 1) = (nodesB c0 c1 c2 c3 st ns k && nodeB c0 c1 c2 c3 (st + k) ts) := by
  unfold nodesB
  rw [List.range_succ, List.all_append]
  simp [h]
theorem nodesB_no {c0 c1 c2 c3 st : Int} {ns : List (List (Int × Int))} {k : Nat} {ts : List (Int × Int)} (h : ns[k]? = some ts) (hn : nodeB c0 c1 c2 c3 (st + k) ts = false) : nodesB c0 c1 c2 c3 st ns ns.length = false := by
  have hk := (List.getElem?_eq_some_iff.1 h).1
  unfold nodesB
  rw [List.all_eq_false]
  exact ⟨k, List.mem_range.2 hk, by rw [h]; simp [hn]⟩
/-- The parts of a network that are looked at before its nodes. -/
def netHeadB (d0 d1 d2 d3 c0 c1 c2 c3 st : Int) (nn xn : Nat) : Bool := okW d0 d1 d2 d3 && (okW c0 c1 c2 c3 && (inB st 0 64 && (decide (nn ≤ 64) && ((xn : Int) == st))))
def netB (d0 d1 d2 d3 c0 c1 c2 c3 st : Int) (ns : List (List (Int × Int))) (nx : List Int) (out : Int) : Bool :=
  netHeadB d0 d1 d2 d3 c0 c1 c2 c3 st ns.length nx.length && (nodesB c0 c1 c2 c3 st ns ns.length && ((nx.all fun v => inB v 0 (st + ns.length)) && inB out 0 (st + ns.length)))
/-- What Chains needs of a valid network. -/
theorem netB_use {d0 d1 d2 d3 c0 c1 c2 c3 st out : Int} {ns : List (List (Int × Int))} {nx : List Int} (h : netB d0 d1 d2 d3 c0 c1 c2 c3 st ns nx out = true) : st = (nx.length : Int) ∧ (nx.length = nx.length ∧ ∀ v ∈ nx, 0 ≤ v ∧ v ≤ 1000000) ∧ nx.length ≤ 64 := by
  unfold netB netHeadB at h
  simp only [Bool.and_eq_true, decide_eq_true_eq, beq_iff_eq] at h
  obtain ⟨⟨_, _, h1, h2, h3⟩, _, h4, _⟩ := h
  have h1 := inB_iff.1 h1
  refine ⟨h3.symm, ⟨rfl, fun v hv => ?_⟩, by omega⟩
  have := inB_iff.1 (List.all_eq_true.1 h4 v hv)
  omega
end Go.Proofs.YtpmbgcfnehplaaaDoor
end
section
/- The walk of Valid of the reference of layer 22. -/
set_option linter.unusedVariables false
set_option linter.unusedSimpArgs false
namespace Go.Proofs.YtpmbgcfnehplaaaDoor
open Go.RowKit

theorem below_net {w w' : World} {o : Obj} (h : Below (w.alloc o).heap.size (w.alloc o) w') : Below (w.heap.size + 1) (w.alloc o) w' := h.mono (by simp)
theorem below_net3 {w w1 w2 : World} {o : Obj} (hb : Below (w.heap.size + 1) (w.alloc o) w1) (hb1 : Below w1.heap.size w1 w2) : Below (w.heap.size + 1) (w.alloc o) w2 := hb.trans (hb1.mono (by have := hb.size; simpa using this))
theorem below_net2 {w w' : World} {o : Obj} (h : Below (w.heap.size + 1) (w.alloc o) w') : Below w.heap.size w w' := ((Below.refl _ _).alloc (Nat.le_refl _) o).trans (h.mono (by omega))
theorem cell_al2 {wr w5 : World} {a b : Value} {T : TypeId} (h : Below (wr.alloc (.cells #[a, b] T)).heap.size (wr.alloc (.cells #[a, b] T)) w5) : w5.cell? ⟨wr.heap.size, 0, none⟩ = some a ∧ w5.cell? ⟨wr.heap.size, 1, none⟩ = some b :=
  ⟨(h.cell (by simp)).trans (by simp [go_sem]), (h.cell (by simp)).trans (by simp [go_sem])⟩
theorem netB_nodes {d0 d1 d2 d3 c0 c1 c2 c3 st out : Int} {ns : List (List (Int × Int))} {nx : List Int} (h : nodesB c0 c1 c2 c3 st ns ns.length = false) : netB d0 d1 d2 d3 c0 c1 c2 c3 st ns nx out = false := by
  unfold netB; rw [h]; simp
theorem nodeB_terms {c0 c1 c2 c3 last : Int} {ts : List (Int × Int)} (h : ts.all (termB c0 c1 c2 c3 last) = false) : nodeB c0 c1 c2 c3 last ts = false := by unfold nodeB; rw [h]; simp
theorem nodeB_long {c0 c1 c2 c3 last : Int} {ts : List (Int × Int)} (h : ¬ ts.length ≤ 64) : nodeB c0 c1 c2 c3 last ts = false := by unfold nodeB; rw [decide_eq_false h]; simp
theorem netB_next {d0 d1 d2 d3 c0 c1 c2 c3 st out : Int} {ns : List (List (Int × Int))} {nx : List Int} (h : (nx.all fun v => inB v 0 (st + ns.length)) = false) : netB d0 d1 d2 d3 c0 c1 c2 c3 st ns nx out = false := by
  unfold netB; rw [h]; simp
theorem netB_end {d0 d1 d2 d3 c0 c1 c2 c3 st out : Int} {ns : List (List (Int × Int))} {nx : List Int} (h1 : netHeadB d0 d1 d2 d3 c0 c1 c2 c3 st ns.length nx.length = true) (h2 : nodesB c0 c1 c2 c3 st ns ns.length = true) (h3 : (nx.all fun v => inB v 0 (st + ns.length)) = true) : netB d0 d1 d2 d3 c0 c1 c2 c3 st ns nx out = inB out 0 (st + ns.length) := by
  unfold netB; rw [h1, h2, h3]; simp
theorem termB_eq {c0 c1 c2 c3 last Q f v : Int} (hQ : (2 : Int) ^ c1.toNat = Q) : termB c0 c1 c2 c3 last (f, v) = (inB f 0 last && (fitsW c0 c1 c2 c3 v || v == Q)) := by unfold termB; rw [hQ]
theorem netB_head {d0 d1 d2 d3 c0 c1 c2 c3 st out : Int} {ns : List (List (Int × Int))} {nx : List Int} (h : netHeadB d0 d1 d2 d3 c0 c1 c2 c3 st ns.length nx.length = false) : netB d0 d1 d2 d3 c0 c1 c2 c3 st ns nx out = false := by
  unfold netB; rw [h]; rfl
end Go.Proofs.YtpmbgcfnehplaaaDoor
end
section
/- The walk of Valid of package network. -/
set_option linter.unusedVariables false
set_option linter.unusedSimpArgs false
namespace Go.Proofs.YtpmbgcfnehplaaaDoor
open Go.RowKit

end Go.Proofs.YtpmbgcfnehplaaaDoor
end
section
/- The walk of chains of the law of layer 41: both Chains answer alike, for any network. -/
set_option linter.unusedVariables false
set_option linter.unusedSimpArgs false
namespace Go.Proofs.YtpmbgcfnehplaaaDoor
open Go.RowKit

theorem preF_le (nx : List Int) (s : Nat) : ∀ k, (preF nx s k).length ≤ k
  | 0 => Nat.le_refl _
  | k + 1 => by
    have := preF_le nx s k
    show (preF nx s k ++ (match itF nx s k with | some x => [(x : Int)] | none => [])).length ≤ k + 1
    rw [List.length_append]
    split <;> simp <;> omega
theorem lnF_bound (nx : List Int) : ∀ k, ∀ l ∈ lnF nx k, l.length ≤ nx.length
  | 0, l, h => by cases h
  | k + 1, l, h => by
    change l ∈ lnF nx k ++ (if ledB nx nx.length k then [] else [lineF nx k]) at h
    rcases List.mem_append.1 h with h | h
    · exact lnF_bound nx k l h
    · split at h
      · cases h
      · simp only [List.mem_singleton] at h
        subst h
        exact preF_le nx k nx.length
end Go.Proofs.YtpmbgcfnehplaaaDoor
end
