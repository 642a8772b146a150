/- The walks of report and Analyse of package bank. -/
import Derived.Test.YtinjjaahljkhdaaV5
import Derived.Handy
namespace Go.Proofs.Ytinjjaahljkhdaa
open Go.RowKit

def evenB (n : Nat) : Bool := (n : Int) % 2 == 0
def anE (ls : List Lft) (x : List Int) : Int := needV (needV (needV (needV 0 (lftsB ls) 2) (evenB x.length) 1) (decide (x.length ≤ 4096)) 4) (x.all wB) 17
def anLo (ls : List Lft) (x : List Int) : List Int := if anE ls x = 0 then (analyseF ls x).1 else []
def anHi (ls : List Lft) (x : List Int) : List Int := if anE ls x = 0 then (analyseF ls x).2 else []
theorem need_zero {k c : Int} {b : Bool} (hc : c ≠ 0) (h : needV k b c = 0) : k = 0 ∧ b = true := by
  unfold needV at h
  split at h
  · exact absurd h hc
  · refine ⟨h, ?_⟩
    cases b
    · rename_i hn; exact absurd ⟨h, rfl⟩ hn
    · rfl
theorem anE_zero {ls : List Lft} {x : List Int} (h : anE ls x = 0) : lftsB ls = true ∧ x.length = 2 * (x.length / 2) ∧ x.length ≤ 4096 ∧ W32 x := by
  unfold anE at h
  obtain ⟨h, h4⟩ := need_zero (by decide) h
  obtain ⟨h, h3⟩ := need_zero (by decide) h
  obtain ⟨h, h2⟩ := need_zero (by decide) h
  obtain ⟨_, h1⟩ := need_zero (by decide) h
  refine ⟨h1, ?_, of_decide_eq_true h3, wB_iff.1 h4⟩
  unfold evenB at h2
  rw [beq_iff_eq] at h2
  omega
theorem CheckAt.kept {w w' : World} {q r : Nat} {k : Int} (h : CheckAt w q k) (hg : w.grownBy w' (some r)) (hne : q ≠ r) : CheckAt w' q k :=
  ⟨hg.cell h.1 (by intro e; injection e with e; exact hne e), (World.frozen?_of_block (hg.block q (cell_lt h.1) (by intro e; injection e with e; exact hne e))).trans h.2⟩
theorem CheckAt.drew {w : World} {q : Nat} {k : Int} (h : CheckAt w q k) : CheckAt w.drew q k := h
theorem IntsFar.one {w : World} {q : Nat} {B : Option Addr} {l : List Int} {d : Nat} {t : TypeId} (h : Ints w B l) (hq : q < w.heap.size) (hb : l ≠ [] → ∀ a, B = some a → a.block ≠ q) :
    IntsFar (w.alloc (.cells #[.slice B l.length d] t)) q (some ⟨w.heap.size, 0, none⟩) [l] := fun k l' hk => by
  match k, hk with
  | 0, hk =>
    simp at hk
    subst hk
    exact ⟨_, B, d, rfl, by show w.heap.size ≠ q; omega, by simp [Addr.add, go_sem], h.grow ((Below.refl _ _).alloc (Nat.le_refl _) _), hb⟩
/-- A call hands back two slices of its own and an error. -/
def Ret3 (w : World) (a b : List Int) (E : Int) (e : Ending) (w' : World) : Prop := ∃ v1 v2, e = .returned (.tuple #[v1, v2, .int .i64 E]) ∧ Own w.heap.size w' v1 a ∧ Own w.heap.size w' v2 b ∧ Below w.heap.size w w'
end Go.Proofs.Ytinjjaahljkhdaa
