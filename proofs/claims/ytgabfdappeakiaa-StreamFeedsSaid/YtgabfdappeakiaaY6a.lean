/- Two lists of words, a call beside a new stream: what the laws of layer 42 share. -/
import Derived.Test.YtgabfdappeakiaaOt
import Derived.Test.YtgabfdappeakiaaY5
import Derived.Test.YtgabfdappeakiaaPu
set_option linter.unusedVariables false
set_option linter.unusedSimpArgs false
namespace Go.Proofs.Ytgabfdappeakiaa
open Go.RowKit

def zNet : List Value := NetD.zero.lst none 0 none 0
theorem st_netBx {ops : Array Oper} {rest : List Oper} {o : Oper} {a : Act} {Q : Exit → Act → World → Prop} {w : World} {vs : List Value} {g : Nat} (hb : Box w g vs) (hl : vs.length = 12) (hgd : o.guard = none) (x y : Operand) (ho : o.op = .store 31 x y) (hx : a.eval x = .pointer (some ⟨g, 0, none⟩)) {n : NetD} {NB XB : Option Addr} {nb xb : Nat} (hy : a.eval y = .agg (n.lst NB nb XB xb).toArray)
    (h : ∀ W1, Box W1 g (n.lst NB nb XB xb) → w.grownBy W1 (some g) → wpList Try.prog ops Q rest (a.put o.dst undef) W1) : wpList Try.prog ops Q (o :: rest) a w := by
  match vs, hl with
  | [_, _, _, _, _, _, _, _, _, _, _, _], _ => exact wp_st hgd _ x y ho g 0 _ hx hy size_net (lst_all _ _ _ _ _) hb (by show 0 + 12 ≤ 12; omega) rfl h
theorem qld_netB {ops : Array Oper} {rest : List Oper} {o : Oper} {a : Act} {Q : Act → Prop} {W : World} {cs : List Value} {g : Nat} (hb : Box W g cs) (hl : cs.length = 12) (hw : Region.wanted o (yielded ops a.tmps) = true) (x : Operand) (ho : o.op = .load 31 x) (hx : a.eval x = .pointer (some ⟨g, 0, none⟩)) (h : wpQuiet Try.prog ops (fun w' => ∃ n : Ext W, w' = n.to) Q rest (a.put o.dst (.agg cs.toArray))) : wpQuiet Try.prog ops (fun w' => ∃ n : Ext W, w' = n.to) Q (o :: rest) a := by
  obtain ⟨d, h1, h2⟩ := row_net
  exact BigFrame.wpQuiet_want hw fun K hK => ⟨_, fun w hw' => by
    obtain ⟨n, rfl⟩ := hw'
    unfold Oper.quietAt execOp
    simp only [ho, hx, Instr.loadAt, Instr.sureAddr, Sem.run_bind, Sem.run_pure, Result.andThen_ok, run_loadVar_mid n.to g 0 _ cs d (Box.range (hb.keep n.below) (fun j v hj => by rw [Nat.zero_add]; exact hj)) h1 h2 (by rw [hl]; exact size_net)]
    exact ⟨rfl, rfl⟩, hK _ h⟩
theorem ld_netW {ops : Array Oper} {rest : List Oper} {o : Oper} {a : Act} {Q : Exit → Act → World → Prop} {w : World} {cs : List Value} {g : Nat} (hb : Box w g cs) (hl : cs.length = 12) (hw : Region.wanted o (yielded ops a.tmps) = true) (x : Operand) (ho : o.op = .load 31 x) (hx : a.eval x = .pointer (some ⟨g, 0, none⟩)) (h : wpList Try.prog ops Q rest (a.put o.dst (.agg cs.toArray)) w) : wpList Try.prog ops Q (o :: rest) a w := by
  obtain ⟨d, h1, h2⟩ := row_net
  exact BigFrame.wpList_want hw fun K hK => wp_load_mid _ x ho g 0 hx cs d (Box.range hb (fun j v hj => by rw [Nat.zero_add]; exact hj)) h1 h2 (by rw [hl]; exact size_net) (hK _ _ h)
/-- Two lists of words, each of the length of its numbers. -/
def wsF (b : Nat) (pv dv av bv : Value) (an bn : Int) (l m : List Int) : Nat → Value → World → Prop
  | 0, v, _ => v = pv | 1, v, _ => v = dv | 2, v, _ => v = av | 3, v, _ => v = av | 4, v, _ => v = .int .i64 an
  | 5, v, w => IsIntsF b l v w
  | 6, v, _ => v = pv | 7, v, _ => v = dv | 8, v, _ => v = bv | 9, v, _ => v = bv | 10, v, _ => v = .int .i64 bn
  | 11, v, w => IsIntsF b m v w
  | _, _, _ => True
theorem wsF_keep {b : Nat} {pv dv av bv : Value} {an bn : Int} {l m : List Int} {w w' : World} (h : Below w.heap.size w w') : ∀ i v, wsF b pv dv av bv an bn l m i v w → wsF b pv dv av bv an bn l m i v w'
  | 0, _, e => e | 1, _, e => e | 2, _, e => e | 3, _, e => e | 4, _, e => e | 6, _, e => e | 7, _, e => e | 8, _, e => e | 9, _, e => e | 10, _, e => e
  | 5, _, ⟨A, c, e, hi⟩ => ⟨A, c, e, hi.grow h⟩
  | 11, _, ⟨A, c, e, hi⟩ => ⟨A, c, e, hi.grow h⟩
  | _ + 12, _, _ => trivial
/-- Three values. -/
def Is3 (v : Value) : Prop := ∃ x y z, v = .tuple #[x, y, z]
/-- Four values. -/
def Is4 (v : Value) : Prop := ∃ x y z t, v = .tuple #[x, y, z, t]
/-- What a call handed back in a world that came of B. -/
structure CallF (B : World) (R : World → Value → World → Prop) (v : Value) (w : World) : Prop where
  was : ∃ w1 w2, Below B.heap.size B w1 ∧ R w1 v w2 ∧ Below w2.heap.size w2 w
theorem CallF.keep {B : World} {R : World → Value → World → Prop} {v : Value} {a b : World} (h : CallF B R v a) (hb : Below a.heap.size a b) : CallF B R v b := by
  obtain ⟨w1, w2, h1, h2, h3⟩ := h.was
  exact ⟨w1, w2, h1, h2, below_then h3 hb⟩
/-- A new block of a stream. -/
def NewF (B : World) (v : Value) (w : World) : Prop := ∃ g, v = .pointer (some ⟨g, 0, none⟩) ∧ StrBox w g StrA.zero ∧ B.heap.size ≤ g
theorem NewF.keep {B : World} {v : Value} {a b : World} (h : NewF B v a) (hb : Below a.heap.size a b) : NewF B v b := by
  obtain ⟨g, e, h1, h2⟩ := h
  exact ⟨g, e, h1.keep hb, h2⟩
/-- A call (ic) and the making of a block (ia), in whatever order. -/
theorem box_done {B w : World} {R : World → Value → World → Prop} {F : Nat → Value → World → Prop} {G : Nat → Value → World → World → Prop} {ic ia : Nat} {vs : Nat → Value}
    (hFc : ∀ v w, F ic v w → CallF B R v w) (hFa : ∀ v w, F ia v w → NewF B v w) (hGc : ∀ v a b, G ic v a b → R a v b) (hGa : ∀ v a b, G ia v a b → v = .pointer (some ⟨a.heap.size, 0, none⟩) ∧ Below a.heap.size a b)
    (h1 : F ic (vs ic) w) (h2 : F ia (vs ia) w) (hP : Prior4 F G (fun a b => Below a.heap.size a b) ic ia (vs ic) (vs ia) w ∨ Prior4 F G (fun a b => Below a.heap.size a b) ia ic (vs ia) (vs ic) w) :
    ∃ g w1 w2, vs ia = .pointer (some ⟨g, 0, none⟩) ∧ StrBox w g StrA.zero ∧ B.heap.size ≤ g ∧ R w1 (vs ic) w2 ∧ Below w2.heap.size w2 w ∧ (g < w1.heap.size ∨ w2.heap.size ≤ g) := by
  obtain ⟨g, e7, hg, hgb⟩ := hFa _ _ h2
  rcases hP with ⟨wa, wb, hf, hg7, hbw⟩ | ⟨wa, wb, hf, hr, hb⟩
  · obtain ⟨w1, w2, -, hr, hb⟩ := (hFc _ _ hf).was
    obtain ⟨hg7, hab⟩ := hGa _ _ _ hg7
    have e : g = wa.heap.size := by
      rw [e7] at hg7; injection hg7 with h; injection h with h; injection h with h
    exact ⟨g, w1, w2, e7, hg, hgb, hr, below_then (below_then hb hab) hbw, .inr (by rw [e]; exact hb.size)⟩
  · obtain ⟨g', e', hg', -⟩ := hFa _ _ hf
    have e : g = g' := by
      rw [e7] at e'; injection e' with h; injection h with h; injection h with h
    exact ⟨g, wa, wb, e7, hg, hgb, hGc _ _ _ hr, hb, .inl (by rw [e]; exact hg'.1)⟩
/-- A row that a call made, behind the store into the new block. -/
theorem row_end {w1 w2 w3 W : World} {g : Nat} {A : Option Addr} {l : List Int} (hi : IntsF w1.heap.size w2 A l) (hb : Below w2.heap.size w2 w3) (hor : g < w1.heap.size ∨ w2.heap.size ≤ g) (pg : w3.grownBy W (some g)) : Ints W A l := by
  rcases hor with h | h
  · exact (hi.away (grown_via hb pg) h).1
  · exact (hi.grow (put_facts hb h pg)).1
theorem str_end {w1 w2 w3 W : World} {g : Nat} {u : StrA} (hi : StrF w1.heap.size w2 u) (hb : Below w2.heap.size w2 w3) (hor : g < w1.heap.size ∨ w2.heap.size ≤ g) (pg : w3.grownBy W (some g)) : StrAt W u := by
  rcases hor with h | h
  · exact (hi.away (grown_via hb pg) h).at
  · exact (hi.grow (put_facts hb h pg)).at
theorem lag_move {P : Program} {o : Oper} {b : Act} {v : Value} (h : LagE P o b v) {x : Operand} (ho : o.op = .move x) {d : Tmp} (hd : o.dst = some d) : b.eval x = v := by
  have hl : lagB o = true := by unfold lagB; rw [ho]
  have := h hl d hd default
  rw [run_move' x ho] at this
  injection this with this
  injection this with this
theorem lag_extract {P : Program} {o : Oper} {b : Act} {v : Value} (h : LagE P o b v) {x : Operand} {k : Nat} (ho : o.op = .extract x k) {d : Tmp} (hd : o.dst = some d) {ts : Array Value} (hx : b.eval x = .tuple ts) {y : Value} (hy : ts[k]? = some y) : v = y := by
  have hl : lagB o = true := by unfold lagB; rw [ho]
  have := h hl d hd default
  unfold execOp at this
  simp only [ho, hx, Instr.extract, hy] at this
  injection this with this
  injection this with this
  exact this.symm
end Go.Proofs.Ytgabfdappeakiaa
