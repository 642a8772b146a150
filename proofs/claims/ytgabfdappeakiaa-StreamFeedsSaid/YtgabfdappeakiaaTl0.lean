/- Plain: a stream with one event more. -/
import Derived.Test.YtgabfdappeakiaaTd
import Derived.Test.YtgabfdappeakiaaPv
set_option linter.unusedVariables false
set_option linter.unusedSimpArgs false
namespace Go.Proofs.Ytgabfdappeakiaa
open Go.RowKit

/-- One event more. -/
def StrD.bump (d : StrD) : StrD := { d with ev := d.ev + 1 }
theorem stS_bump (d : StrD) (x : List Int) : ∀ k, d.bump.stS x k = d.stS x k
  | 0 => rfl
  | k + 1 => by
    unfold StrD.stS
    rw [stS_bump d x k]; rfl
theorem stF_bump (d : StrD) (x : List Int) : ∀ k, d.bump.stF x k = d.stF x k
  | 0 => rfl
  | k + 1 => by
    unfold StrD.stF
    rw [stF_bump d x k]; rfl
theorem outY_bump (d : StrD) (x : List Int) (k : Nat) (y : Int) : d.bump.outY x k y = d.outY x k y := by
  unfold StrD.outY
  rw [stS_bump, stF_bump]; rfl
theorem outS_bump (d : StrD) (x : List Int) : ∀ k, d.bump.outS x k = d.outS x k
  | 0 => rfl
  | k + 1 => by
    unfold StrD.outS
    rw [outS_bump d x k]
    cases x[k]? with
    | none => rfl
    | some y => simp only [outY_bump]
theorem step_bump (d : StrD) (x : List Int) (k : Nat) : d.bump.step x k = { d.step x k with ev := (d.step x k).ev + 1 } := by
  by_cases h : (k : Int) < d.left
  · rw [step_on (d := d.bump) h, step_on h, stS_bump, stF_bump]; rfl
  · rw [step_off (d := d.bump) h, step_off h, stS_bump]; rfl
end Go.Proofs.Ytgabfdappeakiaa
