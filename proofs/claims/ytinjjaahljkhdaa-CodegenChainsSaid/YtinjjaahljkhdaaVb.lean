/- The walk of the law BankReconstructs. -/
import Derived.Test.YtinjjaahljkhdaaVa
namespace Go.Proofs.Ytinjjaahljkhdaa
open Go.RowKit

theorem evenB_two (h : Nat) : evenB (2 * h) = true := by unfold evenB; simp
theorem lftsB_coefs {ls : List Lft} (h : lftsB ls = true) : ls.length ≤ 1000000 ∧ ∀ s ∈ ls, s.2.2.1.length ≤ 9223372036854775807 := by
  obtain ⟨h1, h2⟩ := Bool.and_eq_true _ _ ▸ h
  have h1 := of_decide_eq_true h1
  refine ⟨by omega, fun s hs => ?_⟩
  have := List.all_eq_true.1 h2 s hs
  obtain ⟨h3, _⟩ := Bool.and_eq_true _ _ ▸ this
  have := (head_iff.1 h3).1
  omega
/-- Two slices and no error. -/
def Got2 (w : World) (a b : List Int) (e : Ending) (w' : World) : Prop := ∃ A c B d, e = .returned (.tuple #[.slice A a.length c, .slice B b.length d, .int .i64 0]) ∧ Ints w' A a ∧ Ints w' B b ∧ Below w.heap.size w w'
/-- One slice and no error. -/
def Got1 (w : World) (a : List Int) (e : Ending) (w' : World) : Prop := ∃ A c, e = .returned (.tuple #[.slice A a.length c, .int .i64 0]) ∧ Ints w' A a ∧ Below w.heap.size w w'
theorem w32_analyse {ls : List Lft} {x : List Int} (hw : W32 x) : W32 (analyseF ls x).1 ∧ W32 (analyseF ls x).2 := w32_fold 1 ls _ ⟨w32_ev hw, w32_od hw⟩
theorem w32_synth {ls : List Lft} {a b : List Int} (ha : W32 a) (hb : W32 b) : W32 (synthF ls a b) := by
  have := w32_fold (-1) ls.reverse (a, b) ⟨ha, hb⟩
  exact w32_weave this.1 this.2
theorem w32_take {x : List Int} {h : Nat} (hw : W32 x) : W32 (x.take h) := fun y hy => hw y (List.mem_of_mem_take hy)
theorem w32_drop {x : List Int} {h : Nat} (hw : W32 x) : W32 (x.drop h) := fun y hy => hw y (List.mem_of_mem_drop hy)
theorem Ints.takeL {w : World} {B : Option Addr} {l : List Int} (h : Ints w B l) (k : Nat) : Ints w B (l.take k) := by
  refine ⟨fun j v hj => h.1 j v ?_, fun x hx => h.2 x (List.mem_of_mem_take hx)⟩
  rw [List.map_take, List.getElem?_take] at hj
  split at hj
  · exact hj
  · cases hj
theorem belowD {a w : World} (h : Below a.drew.heap.size a.drew w) : Below a.heap.size a w := (Below.refl a.heap.size a).drew.trans (h.mono (by simp))
theorem Ints.dropL {w : World} {B : Option Addr} {l : List Int} {c k : Nat} (h : Ints w B l) (hc : l.length ≤ c) : Ints w (if c = k then B else B.map (fun x => x.add k)) (l.drop k) := by
  refine ⟨fun j v hj => ?_, fun x hx => h.2 x (List.mem_of_mem_drop hx)⟩
  rw [List.map_drop, List.getElem?_drop] at hj
  obtain ⟨ad, e, h1, h2⟩ := h.1 (k + j) v hj
  have hlt : k + j < l.length := by have := (List.getElem?_eq_some_iff.1 hj).1; simpa using this
  rw [if_neg (by omega), e]
  exact ⟨ad.add k, rfl, by rw [block_add]; exact h1, by rw [add_add]; exact h2⟩
theorem rf_SameN (A B : Option Addr) (l m : List Int) (c d p q : Nat) (w : World) (hp : l.length = p) (hq : m.length = q) (hm : q ≤ 1000000) (he : l = m) (h : Ints w A l) (g : Ints w B m) :
    Calls Try.prog 11 #[.slice A p c, .slice B q d] w fun e w' => e = .returned (.bool true) ∧ Below w.heap.size w w' := by
  subst hp; subst hq
  exact rf_SameB A B l m c d w (by omega) he h g
end Go.Proofs.Ytinjjaahljkhdaa
