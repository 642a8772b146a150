/- Loads and stores of whole structs, by the kit's laws on ranges; the walk of copyStream of package stream. -/
import Derived.Test.YtodnbekeidbknaaTa
import Derived.Deep.MidRow
set_option linter.unusedVariables false
set_option linter.unusedSimpArgs false
namespace Go.Proofs.Ytodnbekeidbknaa
open Go.RowKit

/-- The cells of a network. -/
def NetD.lst (n : NetD) (NA : Option Addr) (nc : Nat) (XA : Option Addr) (xc : Nat) : List Value :=
  [.int .i64 n.d0, .int .i64 n.d1, .int .i64 n.d2, .int .i64 n.d3, .int .i64 n.c0, .int .i64 n.c1, .int .i64 n.c2, .int .i64 n.c3, .int .i64 n.st, .slice NA n.ns.length nc, .slice XA n.nx.length xc, .int .i64 n.out]
/-- The cells of a stream. -/
def StrA.cells (u : StrA) : List Value := u.d.net.lst u.NA u.nc u.XA u.xc ++ u.d.old.lst u.MA u.mc u.YA u.yc ++ [.slice u.SA u.d.s.length u.sc, .slice u.FA u.d.f.length u.fc, .int .i64 u.d.fade, .int .i64 u.d.left, .int .i64 u.d.ev]
def StrA.netL (u : StrA) : List Value := u.d.net.lst u.NA u.nc u.XA u.xc
def StrA.oldL (u : StrA) : List Value := u.d.old.lst u.MA u.mc u.YA u.yc
abbrev StrA.v (u : StrA) : Value := .agg u.cells.toArray
theorem StrA.cells_vals (u : StrA) : u.cells = u.vals.toList := rfl
theorem StrA.v_val (u : StrA) : u.v = u.val := rfl
theorem Box.range {w : World} {g o : Nat} {vs cs : List Value} (h : Box w g vs) (e : ∀ j v, cs[j]? = some v → vs[o + j]? = some v) : w.rangeAt g o cs := fun j v hv => (h.2.1 (o + j)).trans (e j v hv)
theorem Box.there {w : World} {g o n : Nat} {vs : List Value} (h : Box w g vs) (hn : o + n ≤ vs.length) : w.there g o n := fun j hj => ⟨by rw [h.2.1, List.getElem?_eq_getElem (by omega)]; rfl, h.2.2 _⟩
theorem Box.sets {g : Nat} : ∀ (l : List Value) (k : Nat) (w : World) (vs : List Value), Box w g vs → k + l.length ≤ vs.length → Box (w.setCells g k l) g (vs.take k ++ l ++ vs.drop (k + l.length))
  | [], k, w, vs, h, _ => by
    show Box w g _
    rw [List.append_nil, List.length_nil, Nat.add_zero, List.take_append_drop]; exact h
  | v :: l, k, w, vs, h, hk => by
    have hk' : k < vs.length := by simp at hk; omega
    have h1 := h.set (k := k) (u := v) hk'
    have h2 := Box.sets l (k + 1) _ _ h1 (by simp at hk ⊢; omega)
    have e : (vs.set k v).take (k + 1) ++ l ++ (vs.set k v).drop (k + 1 + l.length) = vs.take k ++ (v :: l) ++ vs.drop (k + (v :: l).length) := by
      rw [List.drop_set_of_lt (by omega), List.length_cons, show k + (l.length + 1) = k + 1 + l.length by omega, List.take_add_one, List.getElem?_set_self hk', List.take_set_of_le (Nat.le_refl _)]
      simp
    rw [← e]; exact h2
theorem sets_grown {a : World} {g : Nat} : ∀ (l : List Value) (k : Nat) (w : World), a.grownBy w (some g) → a.grownBy (w.setCells g k l) (some g)
  | [], _, _, h => h
  | v :: l, k, w, h => sets_grown l (k + 1) _ (grown_set h)
/-- The load of a part of a box. -/
theorem wp_ld {ops : Array Oper} {rest : List Oper} {o : Oper} {a : Act} {Q : Exit → Act → World → Prop} {w : World} (hgd : o.guard = none) (ty : TypeId) (x : Operand) (ho : o.op = .load ty x) (g k : Nat) (hx : a.eval x = .pointer (some ⟨g, k, none⟩)) {vs : List Value} (hb : Box w g vs) (cs : List Value)
    (e : ∀ j v, cs[j]? = some v → vs[k + j]? = some v) (d : TypeDesc) (hu : Try.prog.underlying ty = some d) (hd : d.isRow = true) (hi : (Try.prog.info? ty).map (·.size) = some cs.length)
    (h : wpList Try.prog ops Q rest (a.put o.dst (.agg cs.toArray)) w) : wpList Try.prog ops Q (o :: rest) a w :=
  wpList_load_mid hgd ty x ho g k hx cs d (hb.range e) hu hd hi h
/-- The store of a struct into a box. -/
theorem wp_st {ops : Array Oper} {rest : List Oper} {o : Oper} {a : Act} {Q : Exit → Act → World → Prop} {w : World} (hgd : o.guard = none) (ty : TypeId) (x y : Operand) (ho : o.op = .store ty x y) (g k : Nat) (cs : List Value) (hx : a.eval x = .pointer (some ⟨g, k, none⟩)) (hy : a.eval y = .agg cs.toArray)
    (hi : (Try.prog.info? ty).map (·.size) = some cs.length) (h1 : cs.all (·.oneCell') = true) {vs vs' : List Value} (hb : Box w g vs) (hk : k + cs.length ≤ vs.length) (e : vs.take k ++ cs ++ vs.drop (k + cs.length) = vs')
    (h : ∀ W1, Box W1 g vs' → w.grownBy W1 (some g) → wpList Try.prog ops Q rest (a.put o.dst undef) W1) : wpList Try.prog ops Q (o :: rest) a w := by
  refine wpList_store_mid hgd ty x y ho g k cs.toArray hx hy (by simpa using hb.there hk) (by simpa using hi) (all_oneCell_toArray (fun v hv => List.all_eq_true.1 h1 v hv)) ?_
  have e2 : cs.toArray.toList = cs := by simp
  rw [e2]
  refine h _ ?_ (sets_grown _ _ _ (grown_refl w (some g)))
  rw [← e]
  exact Box.sets _ _ _ _ hb hk
/-- The store of one cell into a box. -/
theorem box_one {w : World} {g k : Nat} {vs vs' : List Value} {v : Value} (hb : Box w g vs) (hk : k < vs.length) (e : vs.set k v = vs') : Box (w.setCell ⟨g, k, none⟩ v) g vs' ∧ w.grownBy (w.setCell ⟨g, k, none⟩ v) (some g) := by
  subst e
  exact ⟨hb.set hk, grown_set (grown_refl w (some g))⟩
/-- What a struct's stores leave. -/
theorem put_facts {w w1 W : World} {g : Nat} (h : Below w.heap.size w w1) (hg : w.heap.size ≤ g) (h1 : w1.grownBy W (some g)) : Below w.heap.size w W := h.grown h1 h.size (fun k e => by injection e with e; omega)
/-- What lies behind a stream's slices, in blocks from b on. -/
structure StrF (b : Nat) (w : World) (u : StrA) : Prop where
  net : NetF b w u.d.net u.NA u.XA
  old : NetF b w u.d.old u.MA u.YA
  s : IntsF b w u.SA u.d.s
  f : IntsF b w u.FA u.d.f
  n1 : u.d.s.length ≤ 9223372036854775807
  n2 : u.d.f.length ≤ 9223372036854775807
theorem StrF.at {b : Nat} {w : World} {u : StrA} (h : StrF b w u) : StrAt w u := ⟨h.net.at, h.old.at, h.s.1, h.f.1, h.n1, h.n2⟩
theorem StrF.base {b b' : Nat} {w : World} {u : StrA} (h : StrF b w u) (hb : b' ≤ b) : StrF b' w u := ⟨h.net.base hb, h.old.base hb, h.s.base hb, h.f.base hb, h.n1, h.n2⟩
theorem StrF.grow {b : Nat} {w w' : World} {u : StrA} (h : StrF b w u) (hb : Below w.heap.size w w') : StrF b w' u := ⟨h.net.grow hb, h.old.grow hb, h.s.grow hb, h.f.grow hb, h.n1, h.n2⟩
theorem StrF.away {b q : Nat} {w w' : World} {u : StrA} (h : StrF b w u) (hg : w.grownBy w' (some q)) (hq : q < b) : StrF b w' u := ⟨h.net.away hg hq, h.old.away hg hq, h.s.away hg hq, h.f.away hg hq, h.n1, h.n2⟩
theorem StrF.of {w : World} {u : StrA} (h : StrAt w u) : StrF 0 w u := ⟨NetF.of h.net, NetF.of h.old, ⟨h.s, fun _ _ _ => Nat.zero_le _⟩, ⟨h.f, fun _ _ _ => Nat.zero_le _⟩, h.n1, h.n2⟩
/-- The zero stream. -/
def StrD.zero : StrD := ⟨NetD.zero, NetD.zero, [], [], 0, 0, 0⟩
def StrA.zero : StrA := ⟨StrD.zero, none, none, none, none, none, none, 0, 0, 0, 0, 0, 0⟩
theorem StrF.zero {b : Nat} {w : World} : StrF b w StrA.zero := ⟨NetF.zero, NetF.zero, IntsF.nil, IntsF.nil, by decide, by decide⟩
theorem StrBox.away {w w' : World} {g q : Nat} {u : StrA} (h : StrBox w g u) (hg : w.grownBy w' (some q)) (hn : g ≠ q) : StrBox w' g u := Box.grown h hg (by intro e; injection e with e; exact hn e)
theorem StrBox.box {w : World} {g : Nat} {u : StrA} (h : StrBox w g u) : Box w g u.cells := h
theorem lst_all (n : NetD) (NA : Option Addr) (nc : Nat) (XA : Option Addr) (xc : Nat) : (n.lst NA nc XA xc).all (·.oneCell') = true := rfl
theorem cells_all (u : StrA) : u.cells.all (·.oneCell') = true := rfl
theorem get_app {α : Type} {a b c : List α} {k j : Nat} {v : α} (hk : k = a.length) (h : b[j]? = some v) : (a ++ b ++ c)[k + j]? = some v := by
  have hj := (List.getElem?_eq_some_iff.1 h).1
  rw [List.append_assoc, List.getElem?_append_right (by omega), List.getElem?_append_left (by omega), show k + j - a.length = j by omega]; exact h
theorem net_in (u : StrA) : ∀ j v, u.netL[j]? = some v → u.cells[0 + j]? = some v := fun j v h => by
  have := get_app (a := ([] : List Value)) (b := u.netL) (c := u.oldL ++ [.slice u.SA u.d.s.length u.sc, .slice u.FA u.d.f.length u.fc, .int .i64 u.d.fade, .int .i64 u.d.left, .int .i64 u.d.ev]) (k := 0) rfl h
  rw [List.nil_append, ← List.append_assoc] at this; exact this
theorem old_in (u : StrA) : ∀ j v, u.oldL[j]? = some v → u.cells[12 + j]? = some v := fun j v h => get_app (a := u.netL) (b := u.oldL) (k := 12) rfl h
theorem str_in (u : StrA) : ∀ j v, u.cells[j]? = some v → u.cells[0 + j]? = some v := fun j v h => by rw [Nat.zero_add]; exact h
theorem size_net : (Try.prog.info? 31).map (·.size) = some 12 := by kernel_rfl
theorem size_str : (Try.prog.info? 38).map (·.size) = some 29 := by kernel_rfl
theorem row_net : ∃ d, Try.prog.underlying 31 = some d ∧ d.isRow = true := ⟨_, Try.underlying31, rfl⟩
theorem row_str : ∃ d, Try.prog.underlying 38 = some d ∧ d.isRow = true := ⟨_, Try.underlying38, rfl⟩
theorem results_c {fn : Func} {t : Tmp} {T : TypeId} (h : fn.results = #[.cell t T]) (tmps : Array Value) (P : Program) (w : World) {g : Nat} {v : Value} (hp : tmps.getD t undef = .pointer (some ⟨g, 0, none⟩)) (hv : (loadVar T ⟨g, 0, none⟩).run P w = .ok v w) : (results fn tmps).run P w = .ok v w := by
  have hp' : tmps[t]?.getD undef = .pointer (some ⟨g, 0, none⟩) := by rw [← Array.getD_eq_getD_getElem?]; exact hp
  simp [results, h, hp', hv, asAddr]
theorem results_ct {fn : Func} {t x : Tmp} {T : TypeId} (h : fn.results = #[.cell t T, .tmp x]) (tmps : Array Value) (P : Program) (w : World) {g : Nat} {v : Value} (hp : tmps.getD t undef = .pointer (some ⟨g, 0, none⟩)) (hv : (loadVar T ⟨g, 0, none⟩).run P w = .ok v w) : (results fn tmps).run P w = .ok (.tuple #[v, tmps.getD x undef]) w := by
  have hp' : tmps[t]?.getD undef = .pointer (some ⟨g, 0, none⟩) := by rw [← Array.getD_eq_getD_getElem?]; exact hp
  simp [results, h, hp', hv, asAddr]
theorem results_ctt {fn : Func} {t x y : Tmp} {T : TypeId} (h : fn.results = #[.cell t T, .tmp x, .tmp y]) (tmps : Array Value) (P : Program) (w : World) {g : Nat} {v : Value} (hp : tmps.getD t undef = .pointer (some ⟨g, 0, none⟩)) (hv : (loadVar T ⟨g, 0, none⟩).run P w = .ok v w) : (results fn tmps).run P w = .ok (.tuple #[v, tmps.getD x undef, tmps.getD y undef]) w := by
  have hp' : tmps[t]?.getD undef = .pointer (some ⟨g, 0, none⟩) := by rw [← Array.getD_eq_getD_getElem?]; exact hp
  simp [results, h, hp', hv, asAddr]
theorem results_tct {fn : Func} {t x y : Tmp} {T : TypeId} (h : fn.results = #[.tmp x, .cell t T, .tmp y]) (tmps : Array Value) (P : Program) (w : World) {g : Nat} {v : Value} (hp : tmps.getD t undef = .pointer (some ⟨g, 0, none⟩)) (hv : (loadVar T ⟨g, 0, none⟩).run P w = .ok v w) : (results fn tmps).run P w = .ok (.tuple #[tmps.getD x undef, v, tmps.getD y undef]) w := by
  have hp' : tmps[t]?.getD undef = .pointer (some ⟨g, 0, none⟩) := by rw [← Array.getD_eq_getD_getElem?]; exact hp
  simp [results, h, hp', hv, asAddr]
/-- A call that lays its stream and makes room for its result. -/
theorem entry2 (w : World) (u : StrA) : StrBox ((w.alloc (.cells u.cells.toArray 38)).alloc (.cells StrA.zero.cells.toArray 38)) w.heap.size u ∧ StrBox ((w.alloc (.cells u.cells.toArray 38)).alloc (.cells StrA.zero.cells.toArray 38)) (w.heap.size + 1) StrA.zero ∧
    Below w.heap.size w ((w.alloc (.cells u.cells.toArray 38)).alloc (.cells StrA.zero.cells.toArray 38)) ∧ w.heap.size + 2 ≤ ((w.alloc (.cells u.cells.toArray 38)).alloc (.cells StrA.zero.cells.toArray 38)).heap.size :=
  ⟨Box.alloc (Box.new rfl) _, Box.new (by simp), ((Below.refl w.heap.size w).alloc (Nat.le_refl _) _).alloc (by simp) _, by simp⟩
section
variable {ops : Array Oper} {rest : List Oper} {o : Oper} {a : Act} {Q : Exit → Act → World → Prop} {w : World} {u : StrA} {g : Nat}
theorem ld_net (hb : StrBox w g u) (hgd : o.guard = none) (x : Operand) (ho : o.op = .load 31 x) (hx : a.eval x = .pointer (some ⟨g, 0, none⟩)) (h : wpList Try.prog ops Q rest (a.put o.dst (.agg u.netL.toArray)) w) : wpList Try.prog ops Q (o :: rest) a w := by
  obtain ⟨d, h1, h2⟩ := row_net
  exact wp_ld hgd _ x ho g 0 hx hb.box u.netL (net_in u) d h1 h2 size_net h
theorem ld_old (hb : StrBox w g u) (hgd : o.guard = none) (x : Operand) (ho : o.op = .load 31 x) (hx : a.eval x = .pointer (some ⟨g, 12, none⟩)) (h : wpList Try.prog ops Q rest (a.put o.dst (.agg u.oldL.toArray)) w) : wpList Try.prog ops Q (o :: rest) a w := by
  obtain ⟨d, h1, h2⟩ := row_net
  exact wp_ld hgd _ x ho g 12 hx hb.box u.oldL (old_in u) d h1 h2 size_net h
theorem ld_str (hb : StrBox w g u) (hgd : o.guard = none) (x : Operand) (ho : o.op = .load 38 x) (hx : a.eval x = .pointer (some ⟨g, 0, none⟩)) (h : wpList Try.prog ops Q rest (a.put o.dst u.v) w) : wpList Try.prog ops Q (o :: rest) a w := by
  obtain ⟨d, h1, h2⟩ := row_str
  exact wp_ld hgd _ x ho g 0 hx hb.box u.cells (str_in u) d h1 h2 size_str h
theorem st_net (hb : StrBox w g u) (hgd : o.guard = none) (x y : Operand) (ho : o.op = .store 31 x y) (hx : a.eval x = .pointer (some ⟨g, 0, none⟩)) {n : NetD} {NB XB : Option Addr} {nb xb : Nat} (hy : a.eval y = .agg (n.lst NB nb XB xb).toArray)
    (h : ∀ W1, StrBox W1 g { u with d := { u.d with net := n }, NA := NB, nc := nb, XA := XB, xc := xb } → w.grownBy W1 (some g) → wpList Try.prog ops Q rest (a.put o.dst undef) W1) : wpList Try.prog ops Q (o :: rest) a w :=
  wp_st hgd _ x y ho g 0 _ hx hy size_net (lst_all _ _ _ _ _) hb.box (by show 0 + 12 ≤ 29; omega) rfl h
theorem st_old (hb : StrBox w g u) (hgd : o.guard = none) (x y : Operand) (ho : o.op = .store 31 x y) (hx : a.eval x = .pointer (some ⟨g, 12, none⟩)) {n : NetD} {NB XB : Option Addr} {nb xb : Nat} (hy : a.eval y = .agg (n.lst NB nb XB xb).toArray)
    (h : ∀ W1, StrBox W1 g { u with d := { u.d with old := n }, MA := NB, mc := nb, YA := XB, yc := xb } → w.grownBy W1 (some g) → wpList Try.prog ops Q rest (a.put o.dst undef) W1) : wpList Try.prog ops Q (o :: rest) a w :=
  wp_st hgd _ x y ho g 12 _ hx hy size_net (lst_all _ _ _ _ _) hb.box (by show 12 + 12 ≤ 29; omega) rfl h
theorem st_str (hb : StrBox w g u) (hgd : o.guard = none) (x y : Operand) (ho : o.op = .store 38 x y) (hx : a.eval x = .pointer (some ⟨g, 0, none⟩)) {u' : StrA} (hy : a.eval y = u'.v)
    (h : ∀ W1, StrBox W1 g u' → w.grownBy W1 (some g) → wpList Try.prog ops Q rest (a.put o.dst undef) W1) : wpList Try.prog ops Q (o :: rest) a w :=
  wp_st hgd _ x y ho g 0 _ hx hy size_str (cells_all _) hb.box (by show 0 + 29 ≤ 29; omega) rfl h
theorem StrBox.setS (hb : StrBox w g u) (A : Option Addr) (l : List Int) (c n : Nat) (hn : l.length = n) : StrBox (w.setCell ⟨g, 24, none⟩ (.slice A n c)) g { u with d := { u.d with s := l }, SA := A, sc := c } ∧ w.grownBy (w.setCell ⟨g, 24, none⟩ (.slice A n c)) (some g) := by
  subst hn; exact box_one hb.box (by show 24 < 29; omega) rfl
theorem StrBox.setF (hb : StrBox w g u) (A : Option Addr) (l : List Int) (c n : Nat) (hn : l.length = n) : StrBox (w.setCell ⟨g, 25, none⟩ (.slice A n c)) g { u with d := { u.d with f := l }, FA := A, fc := c } ∧ w.grownBy (w.setCell ⟨g, 25, none⟩ (.slice A n c)) (some g) := by
  subst hn; exact box_one hb.box (by show 25 < 29; omega) rfl
theorem StrBox.setFade (hb : StrBox w g u) (x : Int) : StrBox (w.setCell ⟨g, 26, none⟩ (.int .i64 x)) g { u with d := { u.d with fade := x } } ∧ w.grownBy (w.setCell ⟨g, 26, none⟩ (.int .i64 x)) (some g) := box_one hb.box (by show 26 < 29; omega) rfl
theorem StrBox.setLeft (hb : StrBox w g u) (x : Int) : StrBox (w.setCell ⟨g, 27, none⟩ (.int .i64 x)) g { u with d := { u.d with left := x } } ∧ w.grownBy (w.setCell ⟨g, 27, none⟩ (.int .i64 x)) (some g) := box_one hb.box (by show 27 < 29; omega) rfl
theorem StrBox.setEv (hb : StrBox w g u) (x : Int) : StrBox (w.setCell ⟨g, 28, none⟩ (.int .i64 x)) g { u with d := { u.d with ev := x } } ∧ w.grownBy (w.setCell ⟨g, 28, none⟩ (.int .i64 x)) (some g) := box_one hb.box (by show 28 < 29; omega) rfl
/-- The value of a result that lies in a cell. -/
theorem res_str (hb : StrBox w g u) : (loadVar 38 ⟨g, 0, none⟩).run Try.prog w = .ok u.v w := by
  obtain ⟨d, h1, h2⟩ := row_str
  exact run_loadVar_mid w g 0 _ u.cells d (hb.box.range (str_in u)) h1 h2 size_str
end
/-- A call hands back a stream that reads so, in memory of its own. -/
def RetStr (w : World) (d : StrD) (e : Ending) (w' : World) : Prop := ∃ u : StrA, e = .returned u.v ∧ u.d = d ∧ StrF w.heap.size w' u ∧ Below w.heap.size w w'
end Go.Proofs.Ytodnbekeidbknaa
