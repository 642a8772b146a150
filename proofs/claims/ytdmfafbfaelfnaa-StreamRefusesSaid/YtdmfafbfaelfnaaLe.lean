/- The walks of FixedSaturatesNearest and FixedDots. -/
import Derived.Test.YtdmfafbfaelfnaaLc
namespace Go.Proofs.Ytdmfafbfaelfnaa
open Go.RowKit

theorem wordF_in {b f r o : Int} (x : Int) : lowW b f r o ≤ wordF b f r o x ∧ wordF b f r o x ≤ highW b f r o := by
  obtain ⟨q1, q2, q3, q4⟩ := low_high b f r o
  obtain ⟨g1, g2⟩ := within_in (m := highW b f r o - lowW b f r o + 1) (by omega) (wrap64 (x - lowW b f r o))
  unfold wordF
  omega

theorem Ints.one {w : World} {y : Int} {t : TypeId} (hy : I64 y) : Ints (w.alloc (.cells #[.int .i64 y] t)) (some ⟨w.heap.size, 0, none⟩) [y] := by
  refine ⟨fun k v hk => ?_, by intro x hx; simp at hx; subst hx; exact hy⟩
  match k, hk with
  | 0, hk => simp at hk; subst hk; exact ⟨_, rfl, by simp, by simp [go_sem, Addr.add]⟩

theorem belowF_in {bound : Int} (h0 : 0 ≤ bound) (l : List Int) (k : Nat) : ∀ x ∈ belowF bound l k, -bound ≤ x ∧ x ≤ bound := by
  intro x hx
  unfold belowF at hx
  obtain ⟨i, _, rfl⟩ := List.mem_map.1 hx
  obtain ⟨g1, g2⟩ := within_in (m := 2 * bound + 1) (by omega) (wrap64 (atF l i + bound))
  omega
/-- The sums of elements with the same index. -/
def sumF (q r : List Int) (k : Nat) : List Int := (List.range k).map fun (i : Nat) => q[i]?.getD 0 + r[i]?.getD 0
theorem sumF_succ (q r : List Int) (k : Nat) : sumF q r (k + 1) = sumF q r k ++ [q[k]?.getD 0 + r[k]?.getD 0] := by simp [sumF, List.range_succ]
theorem sumF_length (q r : List Int) (k : Nat) : (sumF q r k).length = k := by simp [sumF]
theorem small_of {l : List Int} (h : ∀ x ∈ l, -16777216 ≤ x ∧ x ≤ 16777216) : smallB l 24 = true := by
  unfold smallB
  rw [List.all_eq_true]
  intro x hx
  rw [show (2 : Int) ^ 24 = 16777216 by decide]
  exact inB_iff.2 (h x hx)
theorem getD_of_mem {l : List Int} {B : Int} (hB : 0 ≤ B) (h : ∀ x ∈ l, -B ≤ x ∧ x ≤ B) (k : Nat) : -B ≤ l[k]?.getD 0 ∧ l[k]?.getD 0 ≤ B := by
  cases hx : l[k]? with
  | none => simp; omega
  | some x => exact h x (List.mem_of_getElem? hx)
/-- Dot is linear in its second list, for short lists of small numbers. -/
theorem dots_law {p q r : List Int} {k : Nat} (hk : k ≤ 64) (hp : p.length = k) (hq : q.length = k) (hr : r.length = k) (bp : ∀ x ∈ p, -1048576 ≤ x ∧ x ≤ 1048576) (bq : ∀ x ∈ q, -1048576 ≤ x ∧ x ≤ 1048576) (br : ∀ x ∈ r, -1048576 ≤ x ∧ x ≤ 1048576) :
    ∃ X Y : Int, dotE p (sumF q r k) = 0 ∧ dotE p q = 0 ∧ dotE p r = 0 ∧ dotV p (sumF q r k) = X + Y ∧ dotV p q = X ∧ dotV p r = Y ∧ (-18014398509481984 ≤ X ∧ X ≤ 18014398509481984) ∧ (-18014398509481984 ≤ Y ∧ Y ≤ 18014398509481984) := by
  have sp := small_of (l := p) fun x hx => by have := bp x hx; omega
  have sq := small_of (l := q) fun x hx => by have := bq x hx; omega
  have sr := small_of (l := r) fun x hx => by have := br x hx; omega
  have ss := small_of (l := sumF q r k) fun x hx => by
    unfold sumF at hx
    obtain ⟨i, _, rfl⟩ := List.mem_map.1 hx
    have := getD_of_mem (by decide) bq i
    have := getD_of_mem (by decide) br i
    omega
  have d1 := dot_of (c := p) (x := sumF q r k) (by rw [sumF_length, hp]) (by omega) true (by rw [sp, ss]; rfl)
  have d2 := dot_of (c := p) (x := q) (by omega) (by omega) true (by rw [sp, sq]; rfl)
  have d3 := dot_of (c := p) (x := r) (by omega) (by omega) true (by rw [sp, sr]; rfl)
  simp only [if_true] at d1 d2 d3
  have hs : dotN p (sumF q r k) p.length = dotN p q p.length + dotN p r p.length := by
    refine dotN_add (sumF q r k) (fun j => ?_) p.length
    rcases Nat.lt_or_ge j k with h | h
    · simp [sumF, h]
    · rw [List.getElem?_eq_none (by rw [sumF_length]; exact h), List.getElem?_eq_none (by omega), List.getElem?_eq_none (by omega)]; rfl
  have b1 := dotN_bound sp sq p.length
  have b2 := dotN_bound sp sr p.length
  exact ⟨_, _, d1.2, d2.2, d3.2, d1.1.trans hs, d2.1, d3.1, by omega, by omega⟩

theorem cell_lt' {w : World} {a : Addr} {v : Value} (h : w.cell? a = some v) : a.block < w.heap.size := by
  rcases Nat.lt_or_ge a.block w.heap.size with hl | hl
  · exact hl
  · unfold World.cell? at h; rw [Array.getElem?_eq_none hl] at h; cases h

end Go.Proofs.Ytdmfafbfaelfnaa
