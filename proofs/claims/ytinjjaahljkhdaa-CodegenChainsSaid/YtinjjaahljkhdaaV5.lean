/- The walks of the checks of package bank: need, words, report. -/
import Derived.Test.YtinjjaahljkhdaaV4
import Derived.Defers
namespace Go.Proofs.Ytinjjaahljkhdaa
open Go.RowKit

/-- The error that is kept, behind a test. -/
def needV (k : Int) (ok : Bool) (code : Int) : Int := if k = 0 ∧ ok = false then code else k
theorem need_true (k code : Int) : needV k true code = k := by unfold needV; rw [if_neg (by simp)]
theorem need_set {k code : Int} (h : k ≠ 0) (ok : Bool) : needV k ok code = k := by unfold needV; rw [if_neg (fun hc => h hc.1)]
theorem need_new (code : Int) : needV 0 false code = code := rfl
theorem need_need {k code : Int} (hc : code ≠ 0) (a b : Bool) : needV (needV k a code) b code = needV k (a && b) code := by
  by_cases hk : k = 0
  · subst hk
    cases a
    · rw [need_new, need_set hc, Bool.false_and, need_new]
    · rw [need_true, Bool.true_and]
  · rw [need_set hk, need_set hk, need_set hk]
/-- The cell of the check. -/
def CheckAt (w : World) (q : Nat) (k : Int) : Prop := w.cell? ⟨q, 0, none⟩ = some (.int .i64 k) ∧ w.frozen? ⟨q, 0, none⟩ = false
theorem CheckAt.keep {w w' : World} {q : Nat} {k : Int} (h : CheckAt w q k) (hb : Below w.heap.size w w') : CheckAt w' q k :=
  ⟨(hb.cell (cell_lt h.1)).trans h.1, (hb.frozen (p := ⟨q, 0, none⟩) (cell_lt h.1)).trans h.2⟩
theorem CheckAt.set {w : World} {q : Nat} {k : Int} (h : CheckAt w q k) (v : Int) : CheckAt (w.setCell ⟨q, 0, none⟩ (.int .i64 v)) q v := by
  obtain ⟨h1, h2⟩ := h
  exact ⟨by simp [go_sem, h1], by simpa using h2⟩
/-- What need, words hand back. -/
def NeedPost (w : World) (q : Nat) (k : Int) (e : Ending) (w' : World) : Prop := e = .returned (.bool (decide (k = 0))) ∧ CheckAt w' q k ∧ w.grownBy w' (some q)
/-- A slice of slices that lies outside a block. -/
def IntsFar (w : World) (q : Nat) (A : Option Addr) (ll : List (List Int)) : Prop :=
  ∀ k l, ll[k]? = some l → ∃ ad B c, A = some ad ∧ ad.block ≠ q ∧ w.cell? (ad.add k) = some (.slice B l.length c) ∧ Ints w B l ∧ (l ≠ [] → ∀ a, B = some a → a.block ≠ q)
theorem IntsFar.kept {w w' : World} {q : Nat} {A : Option Addr} {ll : List (List Int)} (h : IntsFar w q A ll) (hg : w.grownBy w' (some q)) : IntsFar w' q A ll := fun k l hk => by
  obtain ⟨ad, B, c, e, h1, h2, h3, h4⟩ := h k l hk
  exact ⟨ad, B, c, e, h1, hg.cell h2 (by rw [block_add]; intro e; injection e with e; exact h1 e), h3.kept hg (fun hl a ha e => by injection e with e; exact h4 hl a ha e), h4⟩
def wB (x : Int) : Bool := inB x (-2147483648) 2147483647
theorem wB_iff {l : List Int} : l.all wB = true ↔ W32 l := by
  constructor
  · intro h x hx
    have := inB_iff.1 (List.all_eq_true.1 h x hx); omega
  · intro h
    refine List.all_eq_true.2 fun x hx => inB_iff.2 ?_
    have := h x hx; omega
end Go.Proofs.Ytinjjaahljkhdaa
