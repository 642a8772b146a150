/- Words for slices: a row of cells that reads as a list; slices of numbers; rows of the call's own. -/
import Derived.Test.YtinjjaahljkhdaaW
import Derived.Laws.OwnMore
import Derived.OwnWalk
namespace Go.Proofs.Ytinjjaahljkhdaa
open Go.RowKit

theorem block_add (a : Addr) (n : Nat) : (a.add n).block = a.block := by unfold Addr.add; split <;> rfl
theorem add_add (a : Addr) (i j : Nat) : (a.add i).add j = a.add (i + j) := by
  unfold Addr.add
  by_cases hi : i = 0 <;> by_cases hj : j = 0 <;> simp [hi, hj, Nat.add_assoc]

/-- The address A leads to the cells xs, one behind the other, below block B. -/
def Row (w : World) (B : Nat) (A : Option Addr) (xs : List Value) : Prop :=
  ∀ (k : Nat) (v : Value), xs[k]? = some v → ∃ ad, A = some ad ∧ ad.block < B ∧ w.cell? (ad.add k) = some v

section
variable {w w' : World} {B B' : Nat} {A : Option Addr} {xs : List Value}
theorem Row.nil : Row w B A [] := fun k v h => by simp at h
theorem Row.keep (h : Row w B A xs) (hb : Below B w w') : Row w' B A xs := fun k v hk => by
  obtain ⟨ad, e, h1, h2⟩ := h k v hk
  exact ⟨ad, e, h1, (hb.cell (by rw [block_add]; exact h1)).trans h2⟩
theorem Row.more (h : Row w B A xs) (hB : B ≤ B') : Row w B' A xs := fun k v hk => by
  obtain ⟨ad, e, h1, h2⟩ := h k v hk
  exact ⟨ad, e, by omega, h2⟩
theorem Row.grow (h : Row w w.heap.size A xs) (hb : Below w.heap.size w w') : Row w' w'.heap.size A xs := (h.keep hb).more hb.size
theorem Row.at_ {k : Nat} (h : Row w B A xs) (hk : k < xs.length) : ∃ ad v, A = some ad ∧ ad.block < B ∧ xs[k]? = some v ∧ w.cell? (ad.add k) = some v := by
  obtain ⟨ad, e, h1, h2⟩ := h k xs[k] (List.getElem?_eq_getElem hk)
  exact ⟨ad, xs[k], e, h1, List.getElem?_eq_getElem hk, h2⟩
theorem Row.of_own {base n c : Nat} {e : TypeId} (h : w.ownsRow base e 1 (.slice A n c) n xs) : Row w w.heap.size A xs := fun k v hk => by
  have h0 := h
  obtain ⟨hl, h2 | ⟨g, cap, cur, hv, hb, hh, hn, hm, hs, ht⟩⟩ := h
  · obtain ⟨_, rfl⟩ := h2
    have : xs = [] := List.eq_nil_of_length_eq_zero (by omega)
    subst this; simp at hk
  · injection hv with hA
    subst hA
    exact ⟨_, rfl, (h0.lt g rfl).2, h0.cells (g := g) rfl k v hk⟩
end

/-- What an owned row is: a slice of that length. -/
theorem own_form {w : World} {base n size : Nat} {e : TypeId} {v : Value} {xs : List Value} (h : w.ownsRow base e size v n xs) : ∃ A c, v = .slice A n c ∧ n ≤ c := by
  obtain ⟨_, ⟨rfl, rfl⟩ | ⟨g, cap, cur, rfl, _, _, hn, _⟩⟩ := h
  · exact ⟨none, 0, rfl, Nat.le_refl _⟩
  · exact ⟨_, cap, rfl, hn⟩

/-- A slice of numbers that reads as the list l. -/
def Ints (w : World) (A : Option Addr) (l : List Int) : Prop := Row w w.heap.size A (l.map (Value.int .i64)) ∧ ∀ x ∈ l, I64 x

section
variable {w w' : World} {A : Option Addr} {l : List Int}
theorem Ints.nil : Ints w A [] := ⟨Row.nil, by simp⟩
theorem Ints.grow (h : Ints w A l) (hb : Below w.heap.size w w') : Ints w' A l := ⟨h.1.grow hb, h.2⟩
theorem Ints.at_ {k : Nat} (h : Ints w A l) (hk : k < l.length) : ∃ ad x, A = some ad ∧ ad.block < w.heap.size ∧ l[k]? = some x ∧ w.cell? (ad.add k) = some (.int .i64 x) ∧ -9223372036854775808 ≤ x ∧ x ≤ 9223372036854775807 := by
  obtain ⟨ad, v, e, h1, h2, h3⟩ := h.1.at_ (k := k) (by simpa using hk)
  have hx : l[k]? = some l[k] := List.getElem?_eq_getElem hk
  rw [List.getElem?_map, hx] at h2
  simp only [Option.map_some, Option.some.injEq] at h2
  subst h2
  obtain ⟨i1, i2⟩ := h.2 l[k] (List.getElem_mem hk)
  exact ⟨ad, l[k], e, h1, hx, h3, i1, i2⟩
end

/-! ### Lists in loops -/
theorem take_succ_all {α : Type} {l : List α} {k : Nat} {x : α} (h : l[k]? = some x) (p : α → Bool) : (l.take (k + 1)).all p = ((l.take k).all p && p x) := by
  rw [List.take_add_one, h]; simp
theorem all_no {α : Type} {l : List α} {k : Nat} {x : α} (h : l[k]? = some x) {p : α → Bool} (hp : p x = false) : l.all p = false := by
  rw [List.all_eq_false]; exact ⟨x, List.mem_of_getElem? h, by simp [hp]⟩
theorem take_snoc' {α : Type} {l : List α} {k : Nat} {x : α} (h : l[k]? = some x) : l.take (k + 1) = l.take k ++ [x] := by
  rw [List.take_add_one, h]; simp
end Go.Proofs.Ytinjjaahljkhdaa
