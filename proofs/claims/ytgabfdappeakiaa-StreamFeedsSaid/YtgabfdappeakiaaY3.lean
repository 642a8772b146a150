/- The walk of Run of package network. -/
import Derived.Test.YtgabfdappeakiaaPd
import Derived.Test.YtgabfdappeakiaaTe
import Derived.Test.YtgabfdappeakiaaTd
set_option linter.unusedVariables false
set_option linter.unusedSimpArgs false
namespace Go.Proofs.Ytgabfdappeakiaa
open Go.RowKit

/-- A network with a state, as a stream without a crossfade. -/
def runD (n : NetD) (s : List Int) : StrD := ⟨n, NetD.zero, s, [], 0, 0, 0⟩
theorem runD_good {n : NetD} {s : List Int} (h : n.ok = true) (hs : n.state s = true) : (runD n s).Good :=
  ⟨h, hs, (show (0 : Int) ≤ 0 ∧ (0 : Int) ≤ 1099511627776 by decide), (show (0 : Int) ≤ 0 ∧ (0 : Int) ≤ 4096 by decide), (show (0 : Int) ≤ 0 ∧ (0 : Int) ≤ 0 by decide), .inl ⟨rfl, rfl, NetD.isZero_iff.2 rfl, rfl⟩⟩
theorem runD_out {n : NetD} {s x : List Int} {k : Nat} {y : Int} : (runD n s).outY x k y = n.outp ((runD n s).stS x k) y := outY_off (by show ¬ (k : Int) < 0; omega)
/-- A row of the call's own under a change of blocks from b on. -/
theorem own_under {w w' : World} {base n size b : Nat} {e : TypeId} {v : Value} {xs : List Value} (h : w.ownsRow base e size v n xs) (hb : Below b w w') (hv : ∀ q, v.ownBlock = some q → q < b) : w'.ownsRow base e size v n xs := by
  obtain ⟨h1, h2 | ⟨g, cap, cur, hv', hg, hh, r⟩⟩ := h
  · exact ⟨h1, .inl h2⟩
  · have hlt : g < b := hv g (by rw [hv']; rfl)
    exact ⟨h1, .inr ⟨g, cap, cur, hv', hg, (hb.block g hlt).trans hh, r⟩⟩
theorem Own.under {base b : Nat} {w w' : World} {v : Value} {l : List Int} (h : Own base w v l) (hb : Below b w w') (hv : ∀ q, v.ownBlock = some q → q < b) : Own base w' v l := ⟨own_under h.1 hb hv, h.2⟩
theorem Own.intsF {base n c : Nat} {w : World} {A : Option Addr} {l : List Int} (h : Own base w (.slice A n c) l) : IntsF base w A l ∧ l.length = n := by
  obtain ⟨A', c', e, -, hi⟩ := h.form
  injection e with e1 e2 e3
  subst e1 e2 e3
  exact ⟨IntsF.own h, rfl⟩
/-- Outputs and the last state. -/
def RetRun (w : World) (O S : List Int) (e : Ending) (w' : World) : Prop := ∃ (A B : Option Addr) (c b : Nat) (k : Int), e = .returned (.tuple #[.slice A O.length c, .slice B S.length b, .int .i64 k, .int .i64 0]) ∧ IntsF w.heap.size w' A O ∧ IntsF w.heap.size w' B S ∧ Below w.heap.size w w'
theorem ld_netB1 {ops : Array Oper} {rest : List Oper} {o : Oper} {a : Act} {Q : Exit → Act → World → Prop} {w : World} {cs : List Value} {g : Nat} (hb : Box w g cs) (hl : cs.length = 12) (hgd : o.guard = none) (x : Operand) (ho : o.op = .load 31 x) (hx : a.eval x = .pointer (some ⟨g, 0, none⟩)) (h : wpList Try.prog ops Q rest (a.put o.dst (.agg cs.toArray)) w) : wpList Try.prog ops Q (o :: rest) a w := by
  obtain ⟨d, h1, h2⟩ := row_net
  exact wp_ld hgd _ x ho g 0 hx hb cs (fun j v hj => by rw [Nat.zero_add]; exact hj) d h1 h2 (by rw [hl]; exact size_net) h
end Go.Proofs.Ytgabfdappeakiaa
