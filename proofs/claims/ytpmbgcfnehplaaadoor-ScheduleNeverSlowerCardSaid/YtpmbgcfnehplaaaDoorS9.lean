/- Valid of the processor and of its reference. Printed by gen_s8.py. -/
import Derived.Test.YtpmbgcfnehplaaaDoorS8
set_option linter.unusedVariables false
set_option linter.unusedSimpArgs false
namespace Go.Proofs.YtpmbgcfnehplaaaDoor
open Go.RowKit

set_option maxRecDepth 100000 in
theorem r38_Valid (u : PrgA) (w : World) (hp : PrgAt w u) (hr9 : u.d.rg.length ≤ 9223372036854775807) (hc9 : u.d.code.length ≤ 9223372036854775807) {c : Bool} (hc : validB u.d = c) :
    Calls Tryd.prog 20 #[u.v] w fun e w' => e = .returned (.bool c) ∧ Below w.heap.size w w' := by
  have CC : Hid (∀ w1, Below w.heap.size w w1 → Calls Tryd.prog 36 #[.agg u.lst.toArray] w1 (RetChk w1 u.d)) := Lib.hid fun w1 hb => by
    have h := r38_Check u w1 (hp.grow hb) hr9 hc9
    unfold PrgA.v at h
    exact h
  have hcv := chk_valid u.d
  rw [hc] at hcv
  obtain ⟨a, b, hab⟩ : ∃ a b : Int, chkF u.d = (a, b) := ⟨_, _, rfl⟩
  rw [hab] at hcv
  have hbc : (b == 0) = c := hcv
  have HAB := Lib.hid hab
  clear hcv hc hp hab
  go_enter Tryd.func20, Tryd.ntmps20
  go_upto_region 1 with fail
  unfold PrgA.v
  obtain ⟨bp, hb0⟩ := entryP w u.lst _ rfl
  generalize (w.alloc (.cells u.lst.toArray 30)) = W0 at bp hb0 ⊢
  have HB0 := Lib.hid hb0
  have HBP0 := Lib.hid bp
  clear hb0 bp
  generalize w.heap.size = gp at HBP0 ⊢
  go_wp2_with (first
    | ((with_reducible show wpList _ _ _ (Oper.mk _ (.load 30 _) _ _ _ _ :: _) _ _); refine ld_prg HBP0.out rfl rfl _ rfl rfl ?_)
    | (go_at_call 36; (with_reducible refine (CC.out _ HB0.out).mono ?_); rintro e1 w1 ⟨rfl, hb1⟩; rw [HAB.out]))
  go_ret
  exact ⟨rfl, below_then HB0.out hb1⟩
set_option maxRecDepth 100000 in
theorem pr_Valid (u : PrgA) (w : World) (hf : FormsAt w) (hp : PrgAt w u) (hr9 : u.d.rg.length ≤ 9223372036854775807) (hc9 : u.d.code.length ≤ 9223372036854775807) {c : Bool} (hc : validB u.d = c) :
    Calls Tryd.prog 16 #[u.v] w fun e w' => e = .returned (.bool c) ∧ Below w.heap.size w w' := by
  have CC : Hid (∀ w1, Below w.heap.size w w1 → Calls Tryd.prog 33 #[.agg u.lst.toArray] w1 (RetChk w1 u.d)) := Lib.hid fun w1 hb => by
    have h := pr_Check u w1 (hf.grow hb) (hp.grow hb) hr9 hc9
    unfold PrgA.v at h
    exact h
  have hcv := chk_valid u.d
  rw [hc] at hcv
  obtain ⟨a, b, hab⟩ : ∃ a b : Int, chkF u.d = (a, b) := ⟨_, _, rfl⟩
  rw [hab] at hcv
  have hbc : (b == 0) = c := hcv
  have HAB := Lib.hid hab
  clear hcv hc hp hab hf
  go_enter Tryd.func16, Tryd.ntmps16
  go_upto_region 1 with fail
  unfold PrgA.v
  obtain ⟨bp, hb0⟩ := entryP w u.lst _ rfl
  generalize (w.alloc (.cells u.lst.toArray 30)) = W0 at bp hb0 ⊢
  have HB0 := Lib.hid hb0
  have HBP0 := Lib.hid bp
  clear hb0 bp
  generalize w.heap.size = gp at HBP0 ⊢
  go_wp2_with (first
    | ((with_reducible show wpList _ _ _ (Oper.mk _ (.load 30 _) _ _ _ _ :: _) _ _); refine ld_prg HBP0.out rfl rfl _ rfl rfl ?_)
    | (go_at_call 33; (with_reducible refine (CC.out _ HB0.out).mono ?_); rintro e1 w1 ⟨rfl, hb1⟩; rw [HAB.out]))
  go_ret
  exact ⟨rfl, below_then HB0.out hb1⟩
end Go.Proofs.YtpmbgcfnehplaaaDoor
