/- Operations of a drawn region taken one by one: one that alone may come up, and two. -/
import Derived.Test.YtemefigbnjkdoaaDoorPu
import Derived.OrdersHeld
set_option linter.unusedVariables false
set_option linter.unusedSimpArgs false
namespace Go.Proofs.YtemefigbnjkdoaaDoor
open Go.RowKit

theorem anyX_one {P : Program} {md : Region.Mode} {ops : Array Oper} {Q : Exit → Act → World → Prop} {S : World → Prop} {fuel : Nat} {listed : Array Bool} {a : Act} {w : World} {i : Nat} {o : Oper} (hi : ops[i]? = some o) (hr : Region.ready md ops listed = [i]) (hg : o.guard = none) (hs : ∀ cs b, o.op ≠ .select cs b) (hd : ∀ d, o.dst = some d → d < a.tmps.size)
    (h : wpList P #[o] (fun e c w' => e = .normal ∧ ∃ v, c = a.put o.dst v ∧ (S w' ∧ wpAnyH P md ops Q S fuel (listed.setIfInBounds i true) (a.put o.dst v) w')) [o] a w) : wpAnyH P md ops Q S (fuel + 1) listed a w := by
  refine wpAnyH_all hr (by simp) fun j hj => ?_
  obtain rfl := List.mem_singleton.1 hj
  unfold wpOp
  have hw : Region.wanted o (yielded ops a.tmps) = true := by simp [Region.wanted, hg]
  simp only [hi, hw, if_true]
  exact .inl (wp_move_frame hg hs ⟨rfl, fun _ _ => rfl⟩ hd h (fun v w' h => h))
theorem anyX_two {P : Program} {md : Region.Mode} {ops : Array Oper} {Q : Exit → Act → World → Prop} {S : World → Prop} {fuel : Nat} {listed : Array Bool} {a : Act} {w : World} {i j : Nat} {o p : Oper} (hi : ops[i]? = some o) (hj : ops[j]? = some p) (hr : Region.ready md ops listed = [i, j]) (hg : o.guard = none) (hg' : p.guard = none) (hs : ∀ cs b, o.op ≠ .select cs b) (hs' : ∀ cs b, p.op ≠ .select cs b) (hd : ∀ d, o.dst = some d → d < a.tmps.size) (hd' : ∀ d, p.dst = some d → d < a.tmps.size)
    (h : wpList P #[o] (fun e c w' => e = .normal ∧ ∃ v, c = a.put o.dst v ∧ (S w' ∧ wpAnyH P md ops Q S fuel (listed.setIfInBounds i true) (a.put o.dst v) w')) [o] a w)
    (h' : wpList P #[p] (fun e c w' => e = .normal ∧ ∃ v, c = a.put p.dst v ∧ (S w' ∧ wpAnyH P md ops Q S fuel (listed.setIfInBounds j true) (a.put p.dst v) w')) [p] a w) : wpAnyH P md ops Q S (fuel + 1) listed a w := by
  refine wpAnyH_all hr (by simp) fun k hk => ?_
  rcases List.mem_cons.1 hk with rfl | hk
  · unfold wpOp
    have hw : Region.wanted o (yielded ops a.tmps) = true := by simp [Region.wanted, hg]
    simp only [hi, hw, if_true]
    exact .inl (wp_move_frame hg hs ⟨rfl, fun _ _ => rfl⟩ hd h (fun v w' h => h))
  · obtain rfl := List.mem_singleton.1 hk
    unfold wpOp
    have hw : Region.wanted p (yielded ops a.tmps) = true := by simp [Region.wanted, hg']
    simp only [hj, hw, if_true]
    exact .inl (wp_move_frame hg' hs' ⟨rfl, fun _ _ => rfl⟩ hd' h' (fun v w' h => h))
end Go.Proofs.YtemefigbnjkdoaaDoor
