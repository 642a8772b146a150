/- A drawn region that stores parts of a stream: what is stored, in whatever order. -/
import Derived.Test.YtgabfdappeakiaaTg
import Derived.Test.YtgabfdappeakiaaTe
set_option linter.unusedVariables false
set_option linter.unusedSimpArgs false
namespace Go.Proofs.Ytgabfdappeakiaa
open Go.RowKit

/-- The cells from o on, n of them, are those of fin. -/
def D21 (R o n : Nat) (fin : List Value) (w : World) : Prop := ∀ k, o ≤ k → k < o + n → w.cell? ⟨R, k, none⟩ = fin[k]?
/-- Each cell is as it was or as it is to be. -/
def C21 (R : Nat) (org fin : List Value) (W w : World) : Prop := W.grownBy w (some R) ∧ ∃ vs : List Value, Box w R vs ∧ vs.length = 29 ∧ ∀ k : Nat, vs[k]? = org[k]? ∨ vs[k]? = fin[k]?
def G21 (R : Nat) (fin : List Value) (a b : World) : Prop := a.grownBy b (some R) ∧ ∃ vs : List Value, Box b R vs ∧ vs.length = 29 ∧ ∀ k : Nat, vs[k]? = a.cell? ⟨R, k, none⟩ ∨ vs[k]? = fin[k]?
theorem C21.step {R : Nat} {org fin : List Value} {W a b : World} (h : C21 R org fin W a) (hg : G21 R fin a b) : C21 R org fin W b := by
  obtain ⟨h1, vs, hb, hl, hv⟩ := h
  obtain ⟨g1, vs', hb', hl', hv'⟩ := hg
  refine ⟨grown_two h1 g1, vs', hb', hl', fun k => ?_⟩
  rcases hv' k with e | e
  · rw [e, hb.2.1 k]; exact hv k
  · exact .inr e
theorem D21.step {R o n : Nat} {fin : List Value} {a b : World} (h : D21 R o n fin a) (hg : G21 R fin a b) : D21 R o n fin b := fun k h1 h2 => by
  obtain ⟨_, vs', hb', _, hv'⟩ := hg
  rw [hb'.2.1 k]
  rcases hv' k with e | e
  · rw [e]; exact h k h1 h2
  · exact e
theorem C21.stay {R : Nat} {org fin : List Value} {W a : World} (h : C21 R org fin W a) : G21 R fin a a := by
  obtain ⟨h1, vs, hb, hl, hv⟩ := h
  exact ⟨grown_refl _ _, vs, hb, hl, fun k => .inl (hb.2.1 k).symm⟩
theorem C21.one {R k : Nat} {org fin : List Value} {W a : World} {x : Value} (h : C21 R org fin W a) (hk : k < 29) (hx : fin[k]? = some x) : D21 R k 1 fin (a.setCell ⟨R, k, none⟩ x) ∧ G21 R fin a (a.setCell ⟨R, k, none⟩ x) := by
  obtain ⟨h1, vs, hb, hl, hv⟩ := h
  have hb' := hb.set (k := k) (u := x) (by omega)
  have hs : ∀ j, (vs.set k x)[j]? = vs[j]? ∨ (j = k ∧ (vs.set k x)[j]? = fin[j]?) := fun j => by
    by_cases e : k = j
    · subst e; right; exact ⟨rfl, by rw [List.getElem?_set_self (by omega), hx]⟩
    · left; rw [List.getElem?_set_ne e]
  refine ⟨fun j h1 h2 => ?_, grown_set (grown_refl _ _), _, hb', by rw [List.length_set]; exact hl, fun j => ?_⟩
  · have e : j = k := by omega
    subst e
    rw [hb'.2.1, List.getElem?_set_self (by omega), hx]
  · rcases hs j with e | ⟨_, e⟩
    · left; rw [e, hb.2.1 j]
    · exact .inr e
theorem C21.many {R o : Nat} {org fin cs vs : List Value} {W a b : World} (hb : Box a R vs) (hl : vs.length = 29) (ho : o + cs.length ≤ 29) (hx : ∀ j, j < cs.length → fin[o + j]? = cs[j]?) (hB : Box b R (vs.take o ++ cs ++ vs.drop (o + cs.length))) (hg : a.grownBy b (some R)) : D21 R o cs.length fin b ∧ G21 R fin a b := by
  have hlen : (vs.take o).length = o := by rw [List.length_take]; omega
  have at_ : ∀ k, (vs.take o ++ cs ++ vs.drop (o + cs.length))[k]? = if k < o then vs[k]? else if k < o + cs.length then cs[k - o]? else vs[k]? := fun k => by
    by_cases h1 : k < o
    · rw [if_pos h1, List.append_assoc, List.getElem?_append_left (by omega), List.getElem?_take_of_lt h1]
    · rw [if_neg h1, List.append_assoc, List.getElem?_append_right (by omega), hlen]
      by_cases h2 : k < o + cs.length
      · rw [if_pos h2, List.getElem?_append_left (by omega)]
      · rw [if_neg h2, List.getElem?_append_right (by omega), List.getElem?_drop]
        congr 1; omega
  refine ⟨fun k h1 h2 => ?_, hg, _, hB, ?_, fun k => ?_⟩
  · rw [hB.2.1 k, at_ k, if_neg (by omega), if_pos (by omega), ← hx (k - o) (by omega)]
    congr 1; omega
  · simp; omega
  · rw [at_ k]
    by_cases h1 : k < o
    · rw [if_pos h1]; left; exact (hb.2.1 k).symm
    · rw [if_neg h1]
      by_cases h2 : k < o + cs.length
      · rw [if_pos h2]; right
        rw [← hx (k - o) (by omega)]; congr 1; omega
      · rw [if_neg h2]; left; exact (hb.2.1 k).symm
/-- The values of the region that lays the old network beside the new one. -/
def F21 (R : Nat) (nv sv : Value) (fd : Int) (fin : List Value) : Nat → Value → World → Prop
  | 0, v, _ => v = .pointer (some ⟨R, 0, none⟩)
  | 1, v, _ => v = nv
  | 2, v, _ => v = .pointer (some ⟨R, 24, none⟩)
  | 3, v, _ => v = sv
  | 4, v, _ => v = .pointer (some ⟨R + 1, 14, none⟩)
  | 5, v, _ => v = .int .i64 fd
  | 6, v, _ => v = .pointer (some ⟨R + 1, 14, none⟩)
  | 7, v, _ => v = .int .i64 fd
  | 8, v, _ => v = .pointer (some ⟨R, 12, none⟩)
  | 9, _, w => D21 R 12 12 fin w
  | 10, v, _ => v = .pointer (some ⟨R, 25, none⟩)
  | 11, _, w => D21 R 25 1 fin w
  | 12, v, _ => v = .pointer (some ⟨R, 26, none⟩)
  | 13, _, w => D21 R 26 1 fin w
  | 14, v, _ => v = .pointer (some ⟨R, 27, none⟩)
  | 15, _, w => D21 R 27 1 fin w
  | _, _, _ => True
theorem F21_keep {R : Nat} {nv sv : Value} {fd : Int} {fin : List Value} {a b : World} (h : G21 R fin a b) : ∀ i v, F21 R nv sv fd fin i v a → F21 R nv sv fd fin i v b
  | 0, _, e => e | 1, _, e => e | 2, _, e => e | 3, _, e => e | 4, _, e => e | 5, _, e => e | 6, _, e => e | 7, _, e => e | 8, _, e => e | 10, _, e => e | 12, _, e => e | 14, _, e => e
  | 9, _, e => e.step h | 11, _, e => e.step h | 13, _, e => e.step h | 15, _, e => e.step h
  | _ + 16, _, _ => trivial
theorem C21.done {R : Nat} {org fin : List Value} {W w : World} (h : C21 R org fin W w) (h1 : D21 R 12 12 fin w) (h2 : D21 R 25 1 fin w) (h3 : D21 R 26 1 fin w) (h4 : D21 R 27 1 fin w) (hs : ∀ k : Nat, (k < 12 ∨ k = 24 ∨ 28 ≤ k) → org[k]? = fin[k]?) : Box w R fin := by
  obtain ⟨_, vs, hb, hl, hv⟩ := h
  refine ⟨hb.1, fun k => ?_, hb.2.2⟩
  by_cases c1 : k < 12 ∨ k = 24 ∨ 28 ≤ k
  · rw [hb.2.1 k]
    rcases hv k with e | e
    · rw [e]; exact hs k c1
    · exact e
  · by_cases c2 : k < 24
    · exact h1 k (by omega) (by omega)
    · by_cases c3 : k = 25
      · exact h2 k (by omega) (by omega)
      · by_cases c4 : k = 26
        · exact h3 k (by omega) (by omega)
        · exact h4 k (by omega) (by omega)
/-- The stream behind the region. -/
def StrA.laid (u : StrA) (fd : Int) : StrA := { u with d := { u.d with old := u.d.net, f := u.d.s, fade := fd, left := fd }, MA := u.NA, mc := u.nc, YA := u.XA, yc := u.xc, FA := u.SA, fc := u.sc }
theorem laid_same (u : StrA) (fd : Int) : ∀ k : Nat, (k < 12 ∨ k = 24 ∨ 28 ≤ k) → u.cells[k]? = (u.laid fd).cells[k]?
  | 0, _ => rfl | 1, _ => rfl | 2, _ => rfl | 3, _ => rfl | 4, _ => rfl | 5, _ => rfl | 6, _ => rfl | 7, _ => rfl | 8, _ => rfl | 9, _ => rfl | 10, _ => rfl | 11, _ => rfl
  | 24, _ => rfl | 28, _ => rfl
  | 12, h => by omega | 13, h => by omega | 14, h => by omega | 15, h => by omega | 16, h => by omega | 17, h => by omega | 18, h => by omega | 19, h => by omega | 20, h => by omega | 21, h => by omega | 22, h => by omega | 23, h => by omega
  | 25, h => by omega | 26, h => by omega | 27, h => by omega
  | k + 29, _ => by
    rw [List.getElem?_eq_none (show u.cells.length ≤ k + 29 by show 29 ≤ _; omega), List.getElem?_eq_none (show (u.laid fd).cells.length ≤ k + 29 by show 29 ≤ _; omega)]
end Go.Proofs.Ytgabfdappeakiaa
