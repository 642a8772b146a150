/- The walk of the law StreamRefuses. -/
import Derived.Test.YtgabfdappeakiaaTo
import Derived.Test.YtgabfdappeakiaaTs
import Derived.Test.YtgabfdappeakiaaPz
import Derived.Test.YtgabfdappeakiaaTj
set_option linter.unusedVariables false
set_option linter.unusedSimpArgs false
namespace Go.Proofs.Ytgabfdappeakiaa
open Go.RowKit

theorem EvBox.lens {w : World} {g : Nat} {e : EvA} (h : EvBox w g e) : w.cell? ⟨g, 1, none⟩ = some (.slice e.BA e.x.length e.bc) ∧ w.cell? ⟨g, 11, none⟩ = some (.slice e.NA e.net.ns.length e.nc) ∧ w.cell? ⟨g, 12, none⟩ = some (.slice e.XA e.net.nx.length e.xc) :=
  ⟨h.2.1 1, h.2.1 11, h.2.1 12⟩
/-- What both functions Feed hand back. -/
def FeedR (D : StrD) (O : List Int) (E : Int) (w : World) (e : Ending) (w' : World) : Prop := ∃ (u : StrA) (A : Option Addr) (c : Nat), e = .returned (.tuple #[u.v, .slice A O.length c, .int .i64 E]) ∧ u.d = D ∧ StrAt w' u ∧ Ints w' A O ∧ Below w.heap.size w w'
theorem feedM_R {w w' : World} {u : StrA} {e0 : EvA} {D : StrD} {O : List Int} {E : Int} {e : Ending} (h : RetFeedM w u e0 D O E e w') : FeedR D O E w e w' := by
  obtain ⟨us, A, c, he, h1, h2, h3, h4, h5⟩ := h
  exact ⟨us, A, c, he, h1, h3, h4.1, h5⟩
theorem feed_R {w w' : World} {D : StrD} {O : List Int} {E : Int} {e : Ending} (h : RetFeed w D O E e w') : FeedR D O E w e w' := by
  obtain ⟨us, A, c, he, h1, h2, h3, h4⟩ := h
  exact ⟨us, A, c, he, h1, h2.at, h3.1, h4⟩
theorem qld_mid {P : Program} {ops : Array Oper} {rest : List Oper} {o : Oper} {a : Act} {C : World → Prop} {Q : Act → Prop} (hw : Region.wanted o (yielded ops a.tmps) = true) (ty : TypeId) (x : Operand) (ho : o.op = .load ty x) (b k : Nat) (hx : a.eval x = .pointer (some ⟨b, k, none⟩)) (cs : List Value) (d : TypeDesc) (hc : ∀ w, C w → w.rangeAt b k cs)
    (hu : P.underlying ty = some d) (hd : d.isRow = true) (hi : (P.info? ty).map (·.size) = some cs.length) (h : wpQuiet P ops C Q rest (a.put o.dst (.agg cs.toArray))) : wpQuiet P ops C Q (o :: rest) a :=
  BigFrame.wpQuiet_want hw fun K hK => ⟨_, fun w hw' => by
    unfold Oper.quietAt execOp
    simp only [ho, hx, Instr.loadAt, Instr.sureAddr, Sem.run_bind, Sem.run_pure, Result.andThen_ok, run_loadVar_mid w b k ty cs d (hc w hw') hu hd hi]
    exact ⟨rfl, rfl⟩, hK _ h⟩
theorem qld_str {ops : Array Oper} {rest : List Oper} {o : Oper} {a : Act} {Q : Act → Prop} {W : World} {u : StrA} {g : Nat} (hb : StrBox W g u) (hw : Region.wanted o (yielded ops a.tmps) = true) (x : Operand) (ho : o.op = .load 39 x) (hx : a.eval x = .pointer (some ⟨g, 0, none⟩)) (h : wpQuiet Try.prog ops (fun w' => ∃ n : Ext W, w' = n.to) Q rest (a.put o.dst u.v)) : wpQuiet Try.prog ops (fun w' => ∃ n : Ext W, w' = n.to) Q (o :: rest) a := by
  obtain ⟨d, h1, h2⟩ := row_str
  exact qld_mid hw _ x ho g 0 hx u.cells d (fun w hw' => by obtain ⟨n, rfl⟩ := hw'; exact Box.range (hb.keep n.below).box (str_in u)) h1 h2 size_str h
theorem entrySE (w : World) (u : StrA) (e : EvA) : ∀ W, W = ((w.alloc (.cells u.cells.toArray 39)).alloc (.cells e.cells.toArray 33)) →
    StrBox W w.heap.size u ∧ EvBox W (w.heap.size + 1) e ∧ Below w.heap.size w W ∧ w.heap.size + 2 ≤ W.heap.size := fun W hW => by
  subst hW
  exact ⟨Box.alloc (Box.new rfl) _, Box.new (by simp), ((Below.refl w.heap.size w).alloc (Nat.le_refl _) _).alloc (by simp) _, by simp⟩
end Go.Proofs.Ytgabfdappeakiaa
