/- Sample of the reference of package simulate, where nothing is wrong. Printed by gen_s29.py. -/
import Derived.Test.YtgdccmmcjicgkaaDoorfS27
import Derived.Test.YtgdccmmcjicgkaaDoorfS25
import Derived.Test.YtgdccmmcjicgkaaDoorfU3toJ
import Derived.Test.YtgdccmmcjicgkaaDoorfE1toI0
set_option linter.unusedVariables false
set_option linter.unusedSimpArgs false
namespace Go.Proofs.YtgdccmmcjicgkaaDoor
open Go.RowKit
theorem drew_belowS (w : World) : Below w.heap.size w w.drew := (Below.refl _ _).drew
theorem grown_viaS {w w1 w2 : World} {g : Option Nat} (hb1 : Below w.heap.size w w1) (pg2 : w1.grownBy w2 g) : w.grownBy w2 g :=
  ⟨pg2.os.trans hb1.os, pg2.tape.trans hb1.tape, pg2.output.trans hb1.output, Nat.le_trans hb1.size pg2.size, fun k hk hne => (pg2.block k (Nat.lt_of_lt_of_le hk hb1.size) hne).trans (hb1.block k hk)⟩
theorem drew_grown (w : World) (g : Option Nat) : w.grownBy w.drew g := grown_viaS (drew_belowS w) (grown_refl _ g)
def RetSmp (w : World) (d : PrgD) (m : Mac) (y : Int) (e : Ending) (w' : World) : Prop := ∃ z : MacA, z.m = macN d y m ∧ e = .returned (.tuple #[z.v, .int .i64 (sampF d y m d.code).out, .bool (sampF d y m d.code).ov, .int .i64 0]) ∧ MacAt w' z ∧ MacF w.heap.size w' z ∧ Below w.heap.size w w'
theorem RetSmp.mk {w w' : World} {d : PrgD} {y : Int} {m : Mac} {s : Smp} {A C H : Option Addr} {an cn hn ac cc hc : Nat} {cy st : Int} {e : Ending} (he : e = .returned (.tuple #[.agg #[.slice A an ac, .slice C cn cc, .slice H hn hc, .int .i64 cy, .int .i64 st], .int .i64 s.out, .bool s.ov, .int .i64 0])) (h1 : s.regs.length = an) (h2 : s.mem.length = cn) (h3 : s.heads.length = hn) (i1 : Ints w' A s.regs) (i2 : Ints w' C s.mem) (i3 : Ints w' H s.heads) (p1 : ∀ a, A = some a → w.heap.size ≤ a.block ∧ TyAt w' a.block 3) (p2 : ∀ a, C = some a → w.heap.size ≤ a.block ∧ TyAt w' a.block 3) (p3 : s.heads ≠ [] → ∀ a, H = some a → w.heap.size ≤ a.block ∧ TyAt w' a.block 3) (hb : Below w.heap.size w w') (hs : sampF d y m d.code = s) (hm : macN d y m = ⟨s.regs, s.mem, s.heads, cy, st⟩) : RetSmp w d m y e w' := by
  subst h1 h2 h3
  refine ⟨⟨⟨s.regs, s.mem, s.heads, cy, st⟩, A, C, H, ac, cc, hc⟩, hm.symm, ?_, ⟨i1, i2, i3⟩, ⟨fun _ => p1, fun _ => p2, p3⟩, hb⟩
  rw [hs]; exact he
end Go.Proofs.YtgdccmmcjicgkaaDoor
