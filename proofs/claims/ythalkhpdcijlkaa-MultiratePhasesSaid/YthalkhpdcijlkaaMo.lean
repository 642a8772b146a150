/- Contracts in the form that the law Phases needs. -/
import Derived.Test.YthalkhpdcijlkaaMx2
import Derived.Test.YthalkhpdcijlkaaMjw
import Derived.Test.YthalkhpdcijlkaaMjp
import Derived.Test.YthalkhpdcijlkaaMm
import Derived.Test.YthalkhpdcijlkaaB
namespace Go.Proofs.Ythalkhpdcijlkaa
open Go.RowKit

theorem below_in {bound : Int} (h0 : 0 ≤ bound) (l : List Int) (k : Nat) : ∀ x ∈ belowF bound l k, -bound ≤ x ∧ x ≤ bound := by
  intro x hx
  unfold belowF at hx
  obtain ⟨i, _, rfl⟩ := List.mem_map.1 hx
  obtain ⟨g1, g2⟩ := within_in (m := 2 * bound + 1) (by omega) (wrap64 (atF l i + bound))
  omega
theorem exp_ok {n m : Nat} (h1 : 1 ≤ m) (h2 : m ≤ 12) (hn : n ≤ 300) : expE n m = 0 := by
  unfold expE
  rw [if_pos (inB_iff.2 ⟨by omega, by omega⟩), if_neg]
  rcases Nat.eq_zero_or_pos n with h0 | h0
  · subst h0; simp; omega
  · have e : ((n : Int) - 1) * m = (((n - 1) * m : Nat) : Int) := by rw [Int.natCast_mul, Int.natCast_sub h0]; rfl
    have : (n - 1) * m ≤ 299 * 12 := Nat.mul_le_mul (by omega) h2
    rw [e]; omega
theorem join_ok {h g : List Int} (l1 : h.length ≤ 49) (l2 : g.length ≤ 49) (h1 : ∀ x ∈ h, -16777216 ≤ x ∧ x ≤ 16777216) (h2 : ∀ x ∈ g, -16777216 ≤ x ∧ x ≤ 16777216) : joinE h g = 0 ∧ joinV h g = joinF h g := by
  have hE : joinE h g = 0 := by
    unfold joinE
    rw [if_neg (by omega), if_pos ⟨List.all_eq_true.2 fun x hx => inB_iff.2 (h1 x hx), List.all_eq_true.2 fun x hx => inB_iff.2 (h2 x hx)⟩]
  exact ⟨hE, by unfold joinV; rw [if_pos hE]⟩
theorem joinF_length (h g : List Int) : (joinF h g).length = joinLen h g := joinN_length _ _ _ _
/-- A call hands back a slice of n slices that reads as ll, and no error. -/
def GetRows (w : World) (ll : List (List Int)) (n : Nat) (e : Ending) (w' : World) : Prop := ∃ A c, e = .returned (.tuple #[.slice A n c, .int .i64 0]) ∧ IntsL w' A ll ∧ Below w.heap.size w w'
theorem mr_Phases_ok (A : Option Addr) (x : List Int) (c m : Nat) (M : Int) (w : World) (hM : M = (m : Int)) (h1 : 1 ≤ m) (h2 : m ≤ 12) (hx : x.length ≤ 4096) (h : Ints w A x) :
    Calls Try.prog 18 #[.slice A x.length c, .int .i64 M] w (GetRows w (phF x m) m) := by
  subst hM
  refine (mr_Phases A x c m w (by omega) h).mono fun e w' hh => ?_
  have hE := down_ok (n := x.length) h1 h2 hx
  rw [hE, phV_of hE] at hh
  obtain ⟨A', c', rfl, hi, hb⟩ := hh
  exact ⟨A', c', by rw [phF_length], hi, hb⟩
theorem mr_Merge_back (A : Option Addr) (x : List Int) (c m : Nat) (w : World) (h1 : 1 ≤ m) (h2 : m ≤ 12) (hx : x.length ≤ 4096) (h : IntsL w A (phF x m)) :
    Calls Try.prog 20 #[.slice A m c] w (GetInts w x 0) := by
  have hl : ∀ l ∈ phF x m, l.length ≤ 1000000 := fun l hl => by
    have := total_ge hl
    rw [total_phases x h1] at this
    omega
  have := mr_Merge A (phF x m) c w (by rw [phF_length]; omega) hl h
  rw [phF_length] at this
  refine this.mono fun e w' hh => ?_
  rw [merge_ok h1 h2 hx, merge_back h1 h2 hx] at hh
  exact hh.get
theorem mr_Expand_ok (A : Option Addr) (x : List Int) (c m : Nat) (M : Int) (w : World) (hM : M = (m : Int)) (h1 : 1 ≤ m) (h2 : m ≤ 12) (hx : x.length ≤ 300) (h : Ints w A x) :
    Calls Try.prog 16 #[.slice A x.length c, .int .i64 M] w (GetInts w (expF x m) 0) := by
  subst hM
  refine (mr_Expand A x c m w (by omega) h).mono fun e w' hh => ?_
  have hE := exp_ok h1 h2 hx
  rw [hE, expV_of hE] at hh
  exact hh.get
theorem mr_Join_ok (A B : Option Addr) (h g : List Int) (c d : Nat) (w : World) (l1 : h.length ≤ 49) (l2 : g.length ≤ 49) (h1 : ∀ x ∈ h, -16777216 ≤ x ∧ x ≤ 16777216) (h2 : ∀ x ∈ g, -16777216 ≤ x ∧ x ≤ 16777216) (hh : Ints w A h) (hg : Ints w B g) :
    Calls Try.prog 23 #[.slice A h.length c, .slice B g.length d] w (GetInts w (joinF h g) 0) := by
  refine (mr_Join A B h g c d w (by omega) (by omega) hh hg).mono fun e w' q => ?_
  obtain ⟨e1, e2⟩ := join_ok l1 l2 h1 h2
  rw [e1, e2] at q
  exact q.get
end Go.Proofs.Ythalkhpdcijlkaa
