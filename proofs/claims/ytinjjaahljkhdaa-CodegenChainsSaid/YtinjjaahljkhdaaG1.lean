/- Plain laws of delay lines: who follows whom, and why a line ends. -/
import Derived.Test.YtinjjaahljkhdaaPq
namespace Go.Proofs.Ytinjjaahljkhdaa

theorem pigeon : ∀ (S k : Nat) (f : Nat → Nat), (∀ i, i ≤ k → f i < S) → (∀ i j, i ≤ k → j ≤ k → f i = f j → i = j) → k < S
  | 0, _, _, h, _ => absurd (h 0 (Nat.zero_le _)) (Nat.not_lt_zero _)
  | S + 1, 0, _, _, _ => Nat.succ_pos _
  | S + 1, k + 1, f, h, inj => by
    have key : k < S := by
      refine pigeon S k (fun i => if f i = S then f (k + 1) else f i) ?_ ?_
      · intro i hi
        show (if f i = S then f (k + 1) else f i) < S
        split
        · rename_i hs
          have h1 := h (k + 1) (Nat.le_refl _)
          have h2 : f (k + 1) ≠ S := fun e => by have := inj i (k + 1) (by omega) (Nat.le_refl _) (hs.trans e.symm); omega
          omega
        · have := h i (by omega); omega
      · intro i j hi hj
        show (if f i = S then f (k + 1) else f i) = (if f j = S then f (k + 1) else f j) → i = j
        split <;> split
        · rename_i h1 h2
          exact fun _ => inj i j (by omega) (by omega) (h1.trans h2.symm)
        · intro e
          have := inj (k + 1) j (Nat.le_refl _) (by omega) e
          omega
        · intro e
          have := inj i (k + 1) (by omega) (Nat.le_refl _) e
          omega
        · exact fun e => inj i j (by omega) (by omega) e
    omega
/-- The state that follows state a: the first one whose value is a's. -/
def foll (nx : List Int) (a : Nat) : Option Nat := nx.findIdx? (fun v => v == (a : Int) + 1)
theorem foll_some {nx : List Int} {a b : Nat} (h : foll nx a = some b) : nx[b]? = some ((a : Int) + 1) ∧ ∀ j, j < b → nx[j]? ≠ some ((a : Int) + 1) := by
  unfold foll at h
  obtain ⟨hb, h1, h2⟩ := List.findIdx?_eq_some_iff_getElem.1 h
  refine ⟨by rw [List.getElem?_eq_getElem hb]; simpa using h1, fun j hj e => ?_⟩
  have hjl : j < nx.length := by omega
  have := h2 j hj
  rw [List.getElem?_eq_getElem hjl] at e
  injection e with e
  simp [e] at this
theorem foll_none {nx : List Int} {a : Nat} (h : foll nx a = none) : ∀ j : Nat, nx[j]? ≠ some ((a : Int) + 1) := by
  unfold foll at h
  intro j e
  have := List.findIdx?_eq_none_iff.1 h ((a : Int) + 1) (List.mem_of_getElem? e)
  simp at this
theorem foll_lt {nx : List Int} {a b : Nat} (h : foll nx a = some b) : b < nx.length := (List.getElem?_eq_some_iff.1 (foll_some h).1).1
theorem foll_inj {nx : List Int} {a a' b : Nat} (h : foll nx a = some b) (h' : foll nx a' = some b) : a = a' := by
  have h1 := (foll_some h).1
  rw [(foll_some h').1] at h1
  injection h1 with h1
  omega
/-- State s follows some state. -/
def ledP (nx : List Int) (s : Nat) : Prop := ∃ a, a < nx.length ∧ foll nx a = some s
/-- The k-th state of the line that begins at s. -/
def itF (nx : List Int) (s : Nat) : Nat → Option Nat
  | 0 => some s
  | k + 1 => (itF nx s k).bind (foll nx)
theorem it_lt {nx : List Int} {s : Nat} (hs : s < nx.length) : ∀ k x, itF nx s k = some x → x < nx.length
  | 0, x, h => by injection h with h; omega
  | k + 1, x, h => by
    obtain ⟨y, _, h2⟩ := Option.bind_eq_some_iff.1 h
    exact foll_lt h2
theorem it_down {nx : List Int} {s k : Nat} {x : Nat} (h : itF nx s (k + 1) = some x) : ∃ y, itF nx s k = some y ∧ foll nx y = some x := by
  obtain ⟨y, h1, h2⟩ := Option.bind_eq_some_iff.1 h
  exact ⟨y, h1, h2⟩
theorem it_some {nx : List Int} {s : Nat} : ∀ {k j x}, itF nx s k = some x → j ≤ k → ∃ y, itF nx s j = some y
  | 0, j, x, h, hj => ⟨x, by rw [show j = 0 by omega]; exact h⟩
  | k + 1, j, x, h, hj => by
    rcases Nat.lt_or_ge k j with h1 | h1
    · exact ⟨x, by rw [show j = k + 1 by omega]; exact h⟩
    · obtain ⟨y, h2, _⟩ := it_down h
      exact it_some h2 h1
/-- A line that begins at a state that follows none meets no state twice. -/
theorem it_ne {nx : List Int} {s : Nat} (hs : s < nx.length) (hl : ¬ ledP nx s) : ∀ i d x, itF nx s i = some x → itF nx s (i + d + 1) ≠ some x
  | 0, d, x, h, h2 => by
    injection h with h
    subst h
    obtain ⟨y, h3, h4⟩ := it_down (k := 0 + d) h2
    exact hl ⟨y, it_lt hs _ _ h3, h4⟩
  | i + 1, d, x, h, h2 => by
    obtain ⟨y, h3, h4⟩ := it_down h
    rw [show i + 1 + d + 1 = (i + d + 1) + 1 by omega] at h2
    obtain ⟨z, h5, h6⟩ := it_down h2
    have e := foll_inj h4 h6
    subst e
    exact it_ne hs hl i d y h3 h5
theorem it_short {nx : List Int} {s : Nat} (hs : s < nx.length) (hl : ¬ ledP nx s) {k x : Nat} (h : itF nx s k = some x) : k < nx.length := by
  refine pigeon nx.length k (fun i => (itF nx s i).getD 0) ?_ ?_
  · intro i hi
    obtain ⟨y, hy⟩ := it_some h hi
    simp only [hy, Option.getD_some]
    exact it_lt hs i y hy
  · have main : ∀ i j, i < j → j ≤ k → (itF nx s i).getD 0 ≠ (itF nx s j).getD 0 := by
      intro i j hij hj e
      obtain ⟨y, hy⟩ := it_some h (show i ≤ k by omega)
      obtain ⟨z, hz⟩ := it_some h hj
      rw [hy, hz] at e
      simp at e
      subst e
      exact it_ne hs hl i (j - i - 1) y hy (by rw [show i + (j - i - 1) + 1 = j by omega]; exact hz)
    intro i j hi hj e
    rcases Nat.lt_trichotomy i j with h1 | h1 | h1
    · exact absurd e (main i j h1 hj)
    · exact h1
    · exact absurd e.symm (main j i h1 hi)
/-- The first k states of a line. -/
def preF (nx : List Int) (s : Nat) : Nat → List Int
  | 0 => []
  | k + 1 => preF nx s k ++ (match itF nx s k with | some x => [(x : Int)] | none => [])
/-- The line. -/
def lineF (nx : List Int) (s : Nat) : List Int := preF nx s nx.length
theorem pre_some {nx : List Int} {s k x : Nat} (h : itF nx s k = some x) : preF nx s (k + 1) = preF nx s k ++ [(x : Int)] := by
  show preF nx s k ++ (match itF nx s k with | some x => [(x : Int)] | none => []) = _
  rw [h]
theorem it_none {nx : List Int} {s k : Nat} (h : itF nx s k = none) : ∀ d, itF nx s (k + d) = none
  | 0 => h
  | d + 1 => by
    show (itF nx s (k + d)).bind (foll nx) = none
    rw [it_none h d]; rfl
theorem pre_end {nx : List Int} {s k : Nat} (h : itF nx s k = none) : ∀ d, preF nx s (k + d) = preF nx s k
  | 0 => rfl
  | d + 1 => by
    show preF nx s (k + d) ++ (match itF nx s (k + d) with | some x => [(x : Int)] | none => []) = _
    rw [it_none h d, pre_end h d]
    simp
theorem pre_line {nx : List Int} {s k : Nat} (h : itF nx s k = none) (hk : k ≤ nx.length) : preF nx s k = lineF nx s := by
  unfold lineF
  have := pre_end h (nx.length - k)
  rw [show k + (nx.length - k) = nx.length by omega] at this
  exact this.symm
theorem pre_length {nx : List Int} {s : Nat} : ∀ {k x}, itF nx s k = some x → (preF nx s (k + 1)).length = k + 1
  | 0, x, h => by rw [pre_some h]; simp [preF]
  | k + 1, x, h => by
    obtain ⟨y, h1, _⟩ := it_down h
    rw [pre_some h, List.length_append, pre_length h1]; rfl
end Go.Proofs.Ytinjjaahljkhdaa
