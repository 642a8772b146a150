/- Networks made of numbers, in memory of their own. -/
import Derived.Test.YtgabfdappeakiaaOr
import Derived.Test.YtgabfdappeakiaaY6a
set_option linter.unusedVariables false
set_option linter.unusedSimpArgs false
namespace Go.Proofs.Ytgabfdappeakiaa
open Go.RowKit

/-- A valid network in memory of its own. -/
def RetRN (w : World) (e : Ending) (w' : World) : Prop := ∃ (n : NetD) (NA : Option Addr) (nc : Nat) (XA : Option Addr) (xc : Nat), e = .returned (.agg (n.lst NA nc XA xc).toArray) ∧ n.ok = true ∧ n.st ≤ 3 ∧ n.ns.length ≤ 4 ∧ NetF w.heap.size w' n NA XA ∧ Below w.heap.size w w'
def RawA.lst (u : RawA) : List Value := [.int .i64 u.dn, .int .i64 u.cn, .int .i64 u.sn, .slice u.WA u.ws.length u.wc, .slice u.XA u.nx.length u.xc, .int .i64 u.out, .bool u.wh]
theorem RawOk.grow {w w' : World} {u : RawA} (h : RawOk w u) (hb : Below w.heap.size w w') : RawOk w' u := ⟨h.wires.grow hb, h.next.grow hb, h.n1, h.n2⟩
theorem raw_RN (u : RawA) (w : World) (h : RawOk w u) : Calls Try.prog 5 #[.agg u.lst.toArray] w (RetRN w) := by
  refine (raw_NetF u.dn u.cn u.sn u.out u.wh u.WA u.XA _ u.wc _ u.xc u.ws u.nx w h.wires h.next rfl rfl h.n1 h.n2).mono ?_
  rintro e w' ⟨d0, d1, d2, d3, c0, c1, c2, c3, st, ns, nx, out, NA, nc, XA, xc, rfl, -, -, h4, h5, h6, h7, h8, h9, h10, h11, h12⟩
  obtain ⟨-, -, ⟨p1, p2⟩, -, p5, -⟩ := netB_parts h7
  exact ⟨⟨d0, d1, d2, d3, c0, c1, c2, c3, st, out, ns, nx⟩, NA, nc, XA, xc, rfl, h7, h8, h9, ⟨fun k ts hk => h11 k ts hk, ⟨h5, h12⟩, by show ns.length ≤ _; omega, by show nx.length ≤ _; omega, fun ts hts => by have := h10 ts hts; omega, ⟨by show _ ≤ st; omega, by show st ≤ _; omega⟩⟩, h6⟩
theorem ld_raw {ops : Array Oper} {rest : List Oper} {o : Oper} {a : Act} {Q : Exit → Act → World → Prop} {w : World} {u : RawA} {g : Nat} (hb : Box w g u.lst) (hgd : o.guard = none) (x : Operand) (ho : o.op = .load 25 x) (hx : a.eval x = .pointer (some ⟨g, 0, none⟩)) (h : wpList Try.prog ops Q rest (a.put o.dst (.agg u.lst.toArray)) w) : wpList Try.prog ops Q (o :: rest) a w :=
  wp_ld hgd _ x ho g 0 hx hb u.lst (fun j v hj => by rw [Nat.zero_add]; exact hj) _ Try.underlying25 rfl (by kernel_rfl) h
theorem fit_words {n : NetD} {l : List Int} {k : Nat} (h : n.ok = true) : n.fit (wordsF n.d0 n.d1 n.d2 n.d3 l k) = true := by
  obtain ⟨p1, -⟩ := netB_parts h
  unfold NetD.fit wordsF
  rw [List.all_map, List.all_eq_true]
  intro i _
  exact word_fitsR p1 _
end Go.Proofs.Ytgabfdappeakiaa
