/- Events in the heap; copy onto a row of zeros; the walk of change of package stream. -/
import Derived.Test.YtgabfdappeakiaaPc
import Derived.Test.YtgabfdappeakiaaPu
import Derived.Laws.CopyOwn
set_option linter.unusedVariables false
set_option linter.unusedSimpArgs false
namespace Go.Proofs.Ytgabfdappeakiaa
open Go.RowKit

/-- copy(row of the call's own, list of the same length). -/
theorem copy_full {ops : Array Oper} {rest : List Oper} {o : Oper} {a : Act} {Q : Exit → Act → World → Prop} {w : World} (hgd : o.guard = none) (d s : Operand) (ho : o.op = .call { callee := .builtin .copy, args := #[d, s], argTypes := #[23, 23] })
    {base g n c : Nat} {z l : List Int} {A : Option Addr} (hd : a.eval d = .slice (some ⟨g, 0, none⟩) n n) (hs : a.eval s = .slice A n c) (hown : Own base w (.slice (some ⟨g, 0, none⟩) n n) z) (hz : z.length = n) (hI : Ints w A l) (hl : l.length = n)
    (h : ∀ w', Own base w' (.slice (some ⟨g, 0, none⟩) n n) l → w.grownBy w' (some g) → wpList Try.prog ops Q rest (a.put o.dst (.int .i64 n)) w') : wpList Try.prog ops Q (o :: rest) a w := by
  subst hl
  have hu := Try.underlying23
  have hsz : (Try.prog.info? 3).map (·.size) = some 1 := by kernel_rfl
  have h0 := hown
  obtain ⟨⟨hlen, hrow⟩, hall⟩ := hown
  rcases hrow with ⟨e, _⟩ | ⟨g', cap, cur, e, hbg, hg, hnc, hcm, hcs, htake⟩
  · cases e
  · injection e with e1 e2 e3
    injection e1 with e1
    injection e1 with e1
    subst e1 e3
    cases l with
    | nil =>
      have hz0 : z = [] := List.eq_nil_of_length_eq_zero hz
      subst hz0
      refine wpList_copy_nothing hgd d s _ _ ho 3 hu hsz _ _ _ _ _ _ hd hs (by simp) ?_
      exact h w h0 (grown_refl w _)
    | cons y t =>
      obtain ⟨ad, _, rfl, _⟩ := hI.at_ (k := 0) (by simp)
      refine wpList_copy_own hgd d s _ _ ho 3 hu hsz g 0 _ _ ad _ _ hd hs cur 3 hg ((y :: t).map (Value.int .i64)) (by simp) (fun j v hv => ?_) (by rw [List.length_map]; omega) (fun v hv => ?_) ?_
      · obtain ⟨ad', e', _, hc⟩ := hI.1 j v hv
        injection e' with e'; subst e'; exact hc
      · obtain ⟨q, _, rfl⟩ := List.mem_map.1 hv; rfl
      · have hcur : (cur.toList.take 0 ++ ((y :: t).map (Value.int .i64) ++ cur.toList.drop (0 + ((y :: t).map (Value.int .i64)).length))) = (y :: t).map (Value.int .i64) := by
          rw [List.drop_of_length_le (by rw [List.length_map, Array.length_toList]; omega)]; simp
        rw [hcur]
        have e3 : goInt ((y :: t).map (Value.int .i64)).length = .int .i64 ((y :: t).length : Nat) := by rw [List.length_map]; rfl
        rw [e3]
        refine h _ ⟨⟨by rw [List.length_map]; omega, .inr ⟨g, _, ((y :: t).map (Value.int .i64)).toArray, rfl, hbg, setRow_heap w g _ _ _ _ hg, Nat.le_refl _, hcm, by simp, List.take_of_length_le (by simp)⟩⟩, hI.2⟩ ⟨rfl, rfl, rfl, by simp [World.setRow], fun k _ hk => setRow_other w g k _ (fun e => hk (by rw [e]))⟩
/-- An event, with the places of its slices. -/
structure EvA where
  (kind fade : Int)
  net : NetD
  x : List Int
  (NA XA BA : Option Addr)
  (nc xc bc : Nat)
def EvA.cells (e : EvA) : List Value := [.int .i64 e.kind, .slice e.BA e.x.length e.bc] ++ e.net.lst e.NA e.nc e.XA e.xc ++ [.int .i64 e.fade]
def EvA.netL (e : EvA) : List Value := e.net.lst e.NA e.nc e.XA e.xc
abbrev EvA.v (e : EvA) : Value := .agg e.cells.toArray
/-- What lies behind an event's slices. -/
structure EvAt (w : World) (e : EvA) : Prop where
  net : NetAt w e.net e.NA e.XA
  x : Ints w e.BA e.x
  n : e.x.length ≤ 9223372036854775807
theorem EvAt.grow {w w' : World} {e : EvA} (h : EvAt w e) (hb : Below w.heap.size w w') : EvAt w' e := ⟨h.net.grow hb, h.x.grow hb, h.n⟩
def EvBox (w : World) (g : Nat) (e : EvA) : Prop := Box w g e.cells
theorem EvBox.keep {w w' : World} {g : Nat} {e : EvA} (h : EvBox w g e) (hb : Below w.heap.size w w') : EvBox w' g e := Box.keep h hb
theorem EvBox.away {w w' : World} {g q : Nat} {e : EvA} (h : EvBox w g e) (hg : w.grownBy w' (some q)) (hn : g ≠ q) : EvBox w' g e := Box.grown h hg (by intro e; injection e with e; exact hn e)
theorem EvBox.c {w : World} {g : Nat} {e : EvA} (h : EvBox w g e) : w.cell? ⟨g, 0, none⟩ = some (.int .i64 e.kind) ∧ w.cell? ⟨g, 1, none⟩ = some (.slice e.BA e.x.length e.bc) ∧
    (w.cell? ⟨g, 2, none⟩ = some (.int .i64 e.net.d0) ∧ w.cell? ⟨g, 3, none⟩ = some (.int .i64 e.net.d1) ∧ w.cell? ⟨g, 4, none⟩ = some (.int .i64 e.net.d2) ∧ w.cell? ⟨g, 5, none⟩ = some (.int .i64 e.net.d3)) ∧
    w.cell? ⟨g, 10, none⟩ = some (.int .i64 e.net.st) ∧ w.cell? ⟨g, 14, none⟩ = some (.int .i64 e.fade) :=
  ⟨h.2.1 0, h.2.1 1, ⟨h.2.1 2, h.2.1 3, h.2.1 4, h.2.1 5⟩, h.2.1 10, h.2.1 14⟩
theorem evnet_in (e : EvA) : ∀ j v, e.netL[j]? = some v → e.cells[2 + j]? = some v := fun j v h => get_app (a := [.int .i64 e.kind, .slice e.BA e.x.length e.bc]) (b := e.netL) (k := 2) rfl h
theorem ld_evnet {ops : Array Oper} {rest : List Oper} {o : Oper} {a : Act} {Q : Exit → Act → World → Prop} {w : World} {e : EvA} {g : Nat} (hb : EvBox w g e) (hgd : o.guard = none) (x : Operand) (ho : o.op = .load 31 x) (hx : a.eval x = .pointer (some ⟨g, 2, none⟩)) (h : wpList Try.prog ops Q rest (a.put o.dst (.agg e.netL.toArray)) w) : wpList Try.prog ops Q (o :: rest) a w := by
  obtain ⟨d, h1, h2⟩ := row_net
  exact wp_ld hgd _ x ho g 2 hx hb e.netL (evnet_in e) d h1 h2 size_net h
theorem size_ev : (Try.prog.info? 33).map (·.size) = some 15 := by kernel_rfl
theorem row_ev : ∃ d, Try.prog.underlying 33 = some d ∧ d.isRow = true := ⟨_, Try.underlying33, rfl⟩
theorem ld_ev {ops : Array Oper} {rest : List Oper} {o : Oper} {a : Act} {Q : Exit → Act → World → Prop} {w : World} {e : EvA} {g : Nat} (hb : EvBox w g e) (hgd : o.guard = none) (x : Operand) (ho : o.op = .load 33 x) (hx : a.eval x = .pointer (some ⟨g, 0, none⟩)) (h : wpList Try.prog ops Q rest (a.put o.dst e.v) w) : wpList Try.prog ops Q (o :: rest) a w := by
  obtain ⟨d, h1, h2⟩ := row_ev
  exact wp_ld hgd _ x ho g 0 hx hb e.cells (fun j v hj => by rw [Nat.zero_add]; exact hj) d h1 h2 size_ev h
/-- A call that lays its stream and its event and makes room for its result. -/
theorem entry3 (w : World) (u : StrA) (e : EvA) : ∀ W, W = (((w.alloc (.cells u.cells.toArray 39)).alloc (.cells e.cells.toArray 33)).alloc (.cells StrA.zero.cells.toArray 39)) →
    StrBox W w.heap.size u ∧ EvBox W (w.heap.size + 1) e ∧ StrBox W (w.heap.size + 2) StrA.zero ∧ Below w.heap.size w W ∧ w.heap.size + 3 ≤ W.heap.size := fun W hW => by
  subst hW
  exact ⟨Box.alloc (Box.alloc (Box.new rfl) _) _, Box.alloc (Box.new (by simp)) _, Box.new (by simp), (((Below.refl w.heap.size w).alloc (Nat.le_refl _) _).alloc (by simp) _).alloc (by simp; omega) _, by simp⟩
/-- The error of a change. -/
def StrD.chE (d : StrD) (e : EvA) : Int := if e.net.ok = true then (if e.net.same d.net = true ∧ 0 ≤ e.fade ∧ e.fade ≤ 4096 then (if 0 < d.left then 10 else 0) else 1) else 2
/-- What a change leaves. -/
def StrD.chOk (d : StrD) (e : EvA) : StrD := ⟨e.net, if 0 < e.fade then d.net else NetD.zero, if e.net.st = d.net.st then d.s else List.replicate e.net.st.toNat 0, if 0 < e.fade then d.s else [], e.fade, e.fade, d.ev⟩
def StrD.chD (d : StrD) (e : EvA) : StrD := if d.chE e = 0 then d.chOk e else StrD.zero
/-- A call hands back a stream and an error. -/
def RetCh (w : World) (d : StrD) (E : Int) (e : Ending) (w' : World) : Prop := ∃ u : StrA, e = .returned (.tuple #[u.v, .int .i64 E]) ∧ u.d = d ∧ StrF w.heap.size w' u ∧ Below w.heap.size w w'
end Go.Proofs.Ytgabfdappeakiaa
