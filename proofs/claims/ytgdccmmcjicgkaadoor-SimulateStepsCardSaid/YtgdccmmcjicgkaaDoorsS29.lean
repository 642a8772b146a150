/- Sample of the reference of package simulate, where nothing is wrong. Printed by gen_s29.py. -/
import Derived.Test.YtgdccmmcjicgkaaDoorsS28
import Derived.Test.YtgdccmmcjicgkaaDoorsS25
import Derived.Test.YtgdccmmcjicgkaaDoorsS1toE21
import Derived.Test.YtgdccmmcjicgkaaDoorsS22toS14
set_option linter.unusedVariables false
set_option linter.unusedSimpArgs false
namespace Go.Proofs.YtgdccmmcjicgkaaDoor
open Go.RowKit
structure SmAt (b : Nat) (w : World) (gx ga ma c1 c2 hn hc : Nat) (HA : Option Addr) (cy st : Int) (rs ms hs : List Int) : Prop where
  box : Box w gx [.slice (some ⟨ga, 0, none⟩) 8 c1, .slice (some ⟨ma, 0, none⟩) 128 c2, .slice HA hn hc, .int .i64 cy, .int .i64 st]
  regs : Own b w (.slice (some ⟨ga, 0, none⟩) 8 c1) rs
  mem : Own b w (.slice (some ⟨ma, 0, none⟩) 128 c2) ms
  hl : hs.length = hn
  heads : hs ≠ [] → Own b w (.slice HA hn hc) hs
  n1 : ga ≠ gx
  n2 : ma ≠ gx
  n3 : ga ≠ ma
  n4 : hs ≠ [] → (Value.slice HA hn hc).ownBlock ≠ some gx ∧ (Value.slice HA hn hc).ownBlock ≠ some ga ∧ (Value.slice HA hn hc).ownBlock ≠ some ma
  hb : b ≤ gx
section
variable {b : Nat} {w : World} {gx ga ma c1 c2 hn hc : Nat} {HA : Option Addr} {cy st : Int} {rs ms hs : List Int}
theorem SmAt.grow {w' : World} (h : SmAt b w gx ga ma c1 c2 hn hc HA cy st rs ms hs) (hb : Below w.heap.size w w') : SmAt b w' gx ga ma c1 c2 hn hc HA cy st rs ms hs :=
  ⟨h.box.keep hb, h.regs.grow hb, h.mem.grow hb, h.hl, fun e => (h.heads e).grow hb, h.n1, h.n2, h.n3, h.n4, h.hb⟩
theorem SmAt.ints (h : SmAt b w gx ga ma c1 c2 hn hc HA cy st rs ms hs) : Ints w HA hs := by
  by_cases e : hs = []
  · subst e; exact Ints.nil
  · exact (h.heads e).ints
theorem SmAt.reg {k : Nat} {y : Int} (h : SmAt b w gx ga ma c1 c2 hn hc HA cy st rs ms hs) (hy : I64 y) : SmAt b (w.setCell ⟨ga, k, none⟩ (.int .i64 y)) gx ga ma c1 c2 hn hc HA cy st (rs.set k y) ms hs := by
  have hg := grown_set (k := k) (u := .int .i64 y) (grown_refl w (some ga))
  exact ⟨h.box.past h.n1, h.regs.set k hy, own_keptI h.mem hg (fun q => h.n3 (by injection q with q; exact q.symm)), h.hl, fun e => own_keptI (h.heads e) hg (h.n4 e).2.1, h.n1, h.n2, h.n3, h.n4, h.hb⟩
theorem SmAt.memw {k : Nat} {y : Int} (h : SmAt b w gx ga ma c1 c2 hn hc HA cy st rs ms hs) (hy : I64 y) : SmAt b (w.setCell ⟨ma, k, none⟩ (.int .i64 y)) gx ga ma c1 c2 hn hc HA cy st rs (ms.set k y) hs := by
  have hg := grown_set (k := k) (u := .int .i64 y) (grown_refl w (some ma))
  exact ⟨h.box.past h.n2, own_keptI h.regs hg (fun q => h.n3 (by injection q)), h.mem.set k hy, h.hl, fun e => own_keptI (h.heads e) hg (h.n4 e).2.2, h.n1, h.n2, h.n3, h.n4, h.hb⟩
theorem SmAt.head {ha k : Nat} {y : Int} (h : SmAt b w gx ga ma c1 c2 hn hc (some ⟨ha, 0, none⟩) cy st rs ms hs) (hne : hs ≠ []) (hy : I64 y) : SmAt b (w.setCell ⟨ha, k, none⟩ (.int .i64 y)) gx ga ma c1 c2 hn hc (some ⟨ha, 0, none⟩) cy st rs ms (hs.set k y) := by
  have hg := grown_set (k := k) (u := .int .i64 y) (grown_refl w (some ha))
  obtain ⟨e1, e2, e3⟩ := h.n4 hne
  exact ⟨h.box.past (fun q => e1 (by rw [← q]; rfl)), own_keptI h.regs hg (fun q => e2 (by injection q with q; rw [← q]; rfl)), own_keptI h.mem hg (fun q => e3 (by injection q with q; rw [← q]; rfl)), by rw [List.length_set]; exact h.hl, fun _ => (h.heads hne).set k hy, h.n1, h.n2, h.n3, fun _ => h.n4 hne, h.hb⟩
theorem ld_macS {ops : Array Oper} {rest : List Oper} {o : Oper} {a : Act} {Q : Exit → Act → World → Prop} (hr : SmAt b w gx ga ma c1 c2 hn hc HA cy st rs ms hs) (hgd : o.guard = none) (y : Operand) (ho : o.op = .load 46 y) (hx : a.eval y = .pointer (some ⟨gx, 0, none⟩)) (h : wpList Tryd.prog ops Q rest (a.put o.dst (.agg #[.slice (some ⟨ga, 0, none⟩) 8 c1, .slice (some ⟨ma, 0, none⟩) 128 c2, .slice HA hn hc, .int .i64 cy, .int .i64 st])) w) : wpList Tryd.prog ops Q (o :: rest) a w :=
  ld_mac hr.box rfl hgd y ho hx h
end
set_option maxRecDepth 100000 in
theorem app_fresh {ops : Array Oper} {rest : List Oper} {o : Oper} {a : Act} {Q : Exit → Act → World → Prop} (w : World) (hg : o.guard = none) (s x : Operand) (ho : o.op = .call { callee := .builtin .append, args := #[s, x], argTypes := #[32, 32] })
    {p : Addr} {m c : Nat} {l : List Int} {A : Option Addr} (hs : a.eval s = .slice (some p) 0 0) (hx : a.eval x = .slice A m c) (hl : l.length = m) (hi : Ints w A l) (hn : m ≤ 100000000)
    (h : ∀ v' w', (∃ A' c', v' = .slice A' m c') → (l ≠ [] → Own w.heap.size w' v' l) → Below w.heap.size w w' → wpList Tryd.prog ops Q rest (a.put o.dst v') w') : wpList Tryd.prog ops Q (o :: rest) a w := by
  refine wpList_plain hg fun K hK => ?_
  obtain ⟨i0, hi0, hz0, hz1, hz2⟩ := info_parts info_int
  have main : ∃ v' w', (Builtin.append_ #[32, 32] o.type #[.slice (some p) 0 0, .slice A m c]).run Tryd.prog w = .ok v' w' ∧ (∃ A' c', v' = .slice A' m c') ∧ (l ≠ [] → Own w.heap.size w' v' l) ∧ Below w.heap.size w w' := by
    by_cases hm : m = 0
    · subst hm
      refine ⟨.slice (some p) 0 0, w, ?_, ⟨_, _, rfl⟩, fun e => absurd (List.eq_nil_of_length_eq_zero hl) e, Below.refl _ _⟩
      cases A with
      | none => simp [Builtin.append_, run_underlying Tryd.underlying32, sizeOf, typeInfo, hi0, Builtin.lenOf, Builtin.firstCells, storeCells]
      | some ad => simp [Builtin.append_, run_underlying Tryd.underlying32, sizeOf, typeInfo, hi0, Builtin.lenOf, Builtin.firstCells, loadCells, loadCellsFrom, storeCells]
    · cases A with
      | none =>
        obtain ⟨ad, z, e, -⟩ := hi.at_ (k := 0) (by omega)
        cases e
      | some ad =>
        have hnews : ∀ j u, (l.map (Value.int .i64))[j]? = some u → w.cell? (ad.add j) = some u := fun j u hu => by
          obtain ⟨ad', e, -, hc⟩ := hi.1 j u hu
          injection e with e
          rw [e, hc]
        obtain ⟨v', w', q1, q2, q3, -, -⟩ := run_append_own_at (P := Tryd.prog) w w.heap.size 32 o.type 3 i0 (.int .i64 0) 1 8 Tryd.underlying32 hi0 hz0 hz1 hz2 rfl (by decide) (.slice none 0 0) 0 [] (World.ownsRow_nil _ _ _ _) ad m c (l.map (Value.int .i64)) (by rw [List.length_map]; omega) hnews nums_one
          (by unfold maxLen; omega) (by omega) (Nat.le_refl _)
        rw [Nat.zero_add, List.nil_append] at q2
        obtain ⟨A', c', e, -⟩ := own_form q2
        exact ⟨v', w', run_app0 Tryd.underlying32 hi0 (by omega) q1, ⟨A', c', e⟩, fun _ => ⟨by rw [hl]; exact q2, hi.2⟩, own_below (Below.refl _ _) (Nat.le_refl _) (fun k hk => by cases hk) q3⟩
  obtain ⟨v', w', hrun, q0, q1, q2⟩ := main
  unfold Oper.wp execOp
  simp only [ho, resolve, invoke, builtin, Sem.run_bind, Sem.run_pure, Result.andThen_ok, List.map_toArray, List.map_cons, List.map_nil, hs, hx, hrun]
  exact hK _ _ (h v' w' q0 q1 q2)
def cpF (B gm : Nat) (GA MA HA : Option Addr) (gc mc hn hc : Nat) (rs ms hs : List Int) : Nat → Value → World → Prop
  | 0, v, _ | 4, v, _ | 8, v, _ => ∃ p, v = .slice (some p) 0 0
  | 1, v, _ => v = .pointer (some ⟨gm, 0, none⟩)
  | 2, v, _ => v = .slice GA 8 gc
  | 3, v, w => Own B w v rs
  | 5, v, _ => v = .pointer (some ⟨gm, 1, none⟩)
  | 6, v, _ => v = .slice MA 128 mc
  | 7, v, w => Own B w v ms
  | 9, v, _ => v = .pointer (some ⟨gm, 2, none⟩)
  | 10, v, _ => v = .slice HA hn hc
  | 11, v, w => (∃ A c, v = .slice A hn c) ∧ (hs ≠ [] → Own B w v hs)
  | 12, v, w => ∃ a c, ∃ (A : Option Addr) (k : Nat), v = .agg #[a, c, .slice A hn k, .int .i64 0, .int .i64 0] ∧ Own B w a rs ∧ Own B w c ms ∧ (hs ≠ [] → Own B w (.slice A hn k) hs) ∧ (∀ q, a.ownBlock = some q → c.ownBlock ≠ some q) ∧ (hs ≠ [] → ∀ q, (Value.slice A hn k).ownBlock = some q → a.ownBlock ≠ some q ∧ c.ownBlock ≠ some q)
  | 13, v, w => ∃ q, v = .pointer (some ⟨q, 0, none⟩) ∧ Box w q zeros5 ∧ TyAt w q 46 ∧ B ≤ q
  | _, _, _ => True
theorem cpF_keep {B gm : Nat} {GA MA HA : Option Addr} {gc mc hn hc : Nat} {rs ms hs : List Int} {w w' : World} (h : Below w.heap.size w w') : ∀ i v, cpF B gm GA MA HA gc mc hn hc rs ms hs i v w → cpF B gm GA MA HA gc mc hn hc rs ms hs i v w'
  | 0, _, e | 4, _, e | 8, _, e | 1, _, e | 2, _, e | 5, _, e | 6, _, e | 9, _, e | 10, _, e => e
  | 3, _, e | 7, _, e => Own.grow e h
  | 11, _, ⟨e, f⟩ => ⟨e, fun n => (f n).grow h⟩
  | 12, _, ⟨a, c, A, k, e, h1, h2, h3, n1, n2⟩ => ⟨a, c, A, k, e, h1.grow h, h2.grow h, fun n => (h3 n).grow h, n1, n2⟩
  | 13, _, ⟨q, e, b, t, g⟩ => ⟨q, e, b.keep h, t.grow b.1 h, g⟩
  | n + 14, _, e => e
def cpG (rs ms hs : List Int) : Nat → Value → World → World → Prop
  | 3, v, a, b => Own a.heap.size b v rs
  | 7, v, a, b => Own a.heap.size b v ms
  | 11, v, a, b => hs ≠ [] → Own a.heap.size b v hs
  | _, _, _, _ => True
theorem apart_prior {B : Nat} {u v : Value} {l m : List Int} {w w1 : World} (h1 : Own B w u l) (h2 : Own w.heap.size w1 v m) : ∀ q, u.ownBlock = some q → v.ownBlock ≠ some q := fun q e e' => by
  have := own_lt h1 q e
  have := own_ge h2 q e'
  omega
def cyC (W : World) (gx : Nat) (a b h : Value) (w : World) : Prop := W.grownBy w (some gx) ∧ ∃ c s, Box w gx [a, b, h, .int .i64 c, .int .i64 s]
theorem drew_belowS (w : World) : Below w.heap.size w w.drew := (Below.refl _ _).drew
theorem grown_viaS {w w1 w2 : World} {g : Option Nat} (hb1 : Below w.heap.size w w1) (pg2 : w1.grownBy w2 g) : w.grownBy w2 g :=
  ⟨pg2.os.trans hb1.os, pg2.tape.trans hb1.tape, pg2.output.trans hb1.output, Nat.le_trans hb1.size pg2.size, fun k hk hne => (pg2.block k (Nat.lt_of_lt_of_le hk hb1.size) hne).trans (hb1.block k hk)⟩
theorem drew_grown (w : World) (g : Option Nat) : w.grownBy w.drew g := grown_viaS (drew_belowS w) (grown_refl _ g)
def cyG (gx : Nat) (nc ns : Int) (a b : World) : Prop := (b.cell? ⟨gx, 3, none⟩ = some (.int .i64 nc) ∨ b.cell? ⟨gx, 3, none⟩ = a.cell? ⟨gx, 3, none⟩) ∧ (b.cell? ⟨gx, 4, none⟩ = some (.int .i64 ns) ∨ b.cell? ⟨gx, 4, none⟩ = a.cell? ⟨gx, 4, none⟩) ∧ ∀ W x y z, cyC W gx x y z a → cyC W gx x y z b
theorem cyG.refl (gx : Nat) (nc ns : Int) (a : World) : cyG gx nc ns a a := ⟨.inr rfl, .inr rfl, fun _ _ _ _ h => h⟩
def cyF (gm gx : Nat) (cy cyc st stc : Int) : Nat → Value → World → Prop
  | 0, v, _ => v = .pointer (some ⟨gm, 3, none⟩)
  | 1, v, _ => v = .int .i64 cy
  | 2, v, _ => v = .int .i64 cyc
  | 3, v, _ => v = .int .i64 (cy + cyc)
  | 4, v, _ => v = .pointer (some ⟨gm, 4, none⟩)
  | 5, v, _ => v = .int .i64 st
  | 6, v, _ => v = .int .i64 stc
  | 7, v, _ => v = .int .i64 (st + stc)
  | 8, v, _ => v = .pointer (some ⟨gx, 3, none⟩)
  | 9, _, w => w.cell? ⟨gx, 3, none⟩ = some (.int .i64 (cy + cyc))
  | 10, v, _ => v = .pointer (some ⟨gx, 4, none⟩)
  | 11, _, w => w.cell? ⟨gx, 4, none⟩ = some (.int .i64 (st + stc))
  | _, _, _ => True
theorem cyF_keep {gm gx : Nat} {cy cyc st stc : Int} {w w' : World} (h : cyG gx (cy + cyc) (st + stc) w w') : ∀ i v, cyF gm gx cy cyc st stc i v w → cyF gm gx cy cyc st stc i v w'
  | 0, _, e | 1, _, e | 2, _, e | 3, _, e | 4, _, e | 5, _, e | 6, _, e | 7, _, e | 8, _, e | 10, _, e => e
  | 9, _, e => h.1.elim id fun q => q.trans e
  | 11, _, e => h.2.1.elim id fun q => q.trans e
  | n + 12, _, e => e
theorem cyF_three {w : World} {gx : Nat} {a b h : Value} {c s nc : Int} (hb : Box w gx [a, b, h, .int .i64 c, .int .i64 s]) : (w.setCell ⟨gx, 3, none⟩ (.int .i64 nc)).cell? ⟨gx, 3, none⟩ = some (.int .i64 nc) := (hb.set (k := 3) (u := .int .i64 nc) (by show 3 < 5; omega)).2.1 3
theorem cyF_four {w : World} {gx : Nat} {a b h : Value} {c s nc : Int} (hb : Box w gx [a, b, h, .int .i64 c, .int .i64 s]) : (w.setCell ⟨gx, 4, none⟩ (.int .i64 nc)).cell? ⟨gx, 4, none⟩ = some (.int .i64 nc) := (hb.set (k := 4) (u := .int .i64 nc) (by show 4 < 5; omega)).2.1 4
theorem cyG.three {w : World} {gx : Nat} {a b h : Value} {c s nc ns : Int} (hb : Box w gx [a, b, h, .int .i64 c, .int .i64 s]) : cyG gx nc ns w (w.setCell ⟨gx, 3, none⟩ (.int .i64 nc)) := by
  have hs := fun (x y z : Value) (c s : Int) (q : Box w gx [x, y, z, .int .i64 c, .int .i64 s]) => q.set (k := 3) (u := .int .i64 nc) (by show 3 < 5; omega)
  exact ⟨.inl (cyF_three hb), .inr ((hs _ _ _ _ _ hb).2.1 4 |>.trans (hb.2.1 4).symm), fun W x y z ⟨h1, c', s', q⟩ => ⟨grown_set h1, nc, s', hs _ _ _ _ _ q⟩⟩
theorem cyG.four {w : World} {gx : Nat} {a b h : Value} {c s nc ns : Int} (hb : Box w gx [a, b, h, .int .i64 c, .int .i64 s]) : cyG gx nc ns w (w.setCell ⟨gx, 4, none⟩ (.int .i64 ns)) := by
  have hs := fun (x y z : Value) (c s : Int) (q : Box w gx [x, y, z, .int .i64 c, .int .i64 s]) => q.set (k := 4) (u := .int .i64 ns) (by show 4 < 5; omega)
  exact ⟨.inr ((hs _ _ _ _ _ hb).2.1 3 |>.trans (hb.2.1 3).symm), .inl (cyF_four hb), fun W x y z ⟨h1, c', s', q⟩ => ⟨grown_set h1, c', ns, hs _ _ _ _ _ q⟩⟩
theorem SmAt.cyc {b : Nat} {w w' : World} {gx ga ma c1 c2 hn hc : Nat} {HA : Option Addr} {cy st cy' st' c s : Int} {rs ms hs : List Int} (h : SmAt b w gx ga ma c1 c2 hn hc HA cy st rs ms hs) (hg : w.grownBy w' (some gx)) (hb : Box w' gx [.slice (some ⟨ga, 0, none⟩) 8 c1, .slice (some ⟨ma, 0, none⟩) 128 c2, .slice HA hn hc, .int .i64 c, .int .i64 s])
    (e1 : w'.cell? ⟨gx, 3, none⟩ = some (.int .i64 cy')) (e2 : w'.cell? ⟨gx, 4, none⟩ = some (.int .i64 st')) : SmAt b w' gx ga ma c1 c2 hn hc HA cy' st' rs ms hs := by
  obtain rfl : c = cy' := by
    have := (hb.2.1 3).symm.trans e1
    injection this with this
    injection this
  obtain rfl : s = st' := by
    have := (hb.2.1 4).symm.trans e2
    injection this with this
    injection this
  exact ⟨hb, own_keptI h.regs hg (fun q => h.n1 (by injection q)), own_keptI h.mem hg (fun q => h.n2 (by injection q)), h.hl, fun n => own_keptI (h.heads n) hg (h.n4 n).1, h.n1, h.n2, h.n3, h.n4, h.hb⟩
def RetSmp (w : World) (d : PrgD) (m : Mac) (y : Int) (e : Ending) (w' : World) : Prop := ∃ z : MacA, z.m = macN d y m ∧ e = .returned (.tuple #[z.v, .int .i64 (sampF d y m d.code).out, .bool (sampF d y m d.code).ov, .int .i64 0]) ∧ MacAt w' z ∧ MacF w.heap.size w' z ∧ Below w.heap.size w w'
theorem macN_eq {d : PrgD} {y : Int} {m : Mac} {s : Smp} {cy st cyc stc : Int} (h : sampF d y m d.code = s) (h1 : m.cyc = cy) (h2 : m.stl = st) (h3 : cycF d.code = cyc) (h4 : stlF d.code = stc) : macN d y m = ⟨s.regs, s.mem, s.heads, cy + cyc, st + stc⟩ := by
  unfold macN
  rw [h, h1, h2, h3, h4]
theorem RetSmp.mk {w w' : World} {d : PrgD} {y : Int} {m : Mac} {s : Smp} {A C H : Option Addr} {an cn hn ac cc hc : Nat} {cy st : Int} {e : Ending} (he : e = .returned (.tuple #[.agg #[.slice A an ac, .slice C cn cc, .slice H hn hc, .int .i64 cy, .int .i64 st], .int .i64 s.out, .bool s.ov, .int .i64 0])) (h1 : s.regs.length = an) (h2 : s.mem.length = cn) (h3 : s.heads.length = hn) (i1 : Ints w' A s.regs) (i2 : Ints w' C s.mem) (i3 : Ints w' H s.heads) (p1 : ∀ a, A = some a → w.heap.size ≤ a.block ∧ TyAt w' a.block 3) (p2 : ∀ a, C = some a → w.heap.size ≤ a.block ∧ TyAt w' a.block 3) (p3 : s.heads ≠ [] → ∀ a, H = some a → w.heap.size ≤ a.block ∧ TyAt w' a.block 3) (hb : Below w.heap.size w w') (hs : sampF d y m d.code = s) (hm : macN d y m = ⟨s.regs, s.mem, s.heads, cy, st⟩) : RetSmp w d m y e w' := by
  subst h1 h2 h3
  refine ⟨⟨⟨s.regs, s.mem, s.heads, cy, st⟩, A, C, H, ac, cc, hc⟩, hm.symm, ?_, ⟨i1, i2, i3⟩, ⟨fun _ => p1, fun _ => p2, p3⟩, hb⟩
  rw [hs]; exact he
set_option maxRecDepth 100000 in
set_option maxHeartbeats 32000000 in
theorem r39_Sample (u : PrgA) (x : MacA) (y : Int) (w : World) (hp : PrgAt w u) (hx : MacAt w x) (hm : macB u.d x.m = true) (hw : fitD u.d y = true) :
    Calls Tryd.prog 37 #[u.v, x.v, .int .i64 y] w (RetSmp w u.d x.m y) := by
  obtain ⟨hv, hok, hcy, hst⟩ := macB_parts hm
  have hfc := valid_fine hv
  have hpos := (valid_parts hv).2.2.1
  have hrl := (valid_rl hv).1
  have hl3 : x.m.heads.length ≤ 8 := by rw [hok.hl]; exact hrl
  obtain ⟨cn, hcn⟩ : ∃ n, u.d.code.length = n := ⟨_, rfl⟩
  obtain ⟨rn, hrn⟩ : ∃ n, u.d.rg.length = n := ⟨_, rfl⟩
  have CV : Hid (∀ w1, Below w.heap.size w w1 → Calls Tryd.prog 29 #[.agg u.lst.toArray] w1 fun e w' => e = .returned (.bool true) ∧ Below w1.heap.size w1 w') := Lib.hid fun w1 hb => by
    have h := r38_Valid u w1 (hp.grow hb) (by omega) (by omega) hv
    unfold PrgA.v at h
    exact h
  have CM : Hid (∀ w1, Below w.heap.size w w1 → Calls Tryd.prog 40 #[.agg u.lst.toArray, .agg x.lst.toArray] w1 fun e w' => e = .returned (.bool true) ∧ Below w1.heap.size w1 w') := Lib.hid fun w1 hb => by
    have h := r39_Valid u x w1 (hp.grow hb) (hx.grow hb) (by omega) (by omega) ⟨by rw [hok.rl]; omega, by rw [hok.ml]; omega, by omega⟩ hm
    unfold PrgA.v MacA.v at h
    exact h
  have CF : Hid (∀ w1 v, fitD u.d v = true → Calls Tryd.prog 67 #[wordV u.d.d0 u.d.d1 u.d.d2 u.d.d3, .int .i64 v] w1 fun e w' => e = .returned (.bool true) ∧ Below w1.heap.size w1 w') := Lib.hid fun w1 v h => by
    have h2 := rf_Fits u.d.d0 u.d.d1 u.d.d2 u.d.d3 v w1
    unfold fitD at h
    rw [h] at h2
    exact h2
  have CT : Hid (∀ w1 Y yc, InsAt w1 Y u.d.code → Calls Tryd.prog 31 #[.slice Y cn yc] w1 fun e w' => e = .returned (.tuple #[.int .i64 (cycF u.d.code), .int .i64 (stlF u.d.code), .int .i64 0]) ∧ Below w1.heap.size w1 w') := Lib.hid fun w1 Y yc hy => by
    have h := r39_Time Y cn yc u.d.code w1 hy hcn (by omega)
    unfold RetTime at h
    have e2 : depE u.d.code = 0 := by unfold depE; rw [if_pos hfc]
    rw [e2] at h
    exact h
  have htm := time_in (l := u.d.code) (by omega)
  obtain ⟨⟨rs, ms, hs, cy0, st0⟩, GA, MA, HX, gc, mc, xc⟩ := x
  obtain ⟨hga, hma, hha⟩ := hx
  simp only at hga hma hha hok hcy hst hl3
  obtain ⟨hn, hhn⟩ : ∃ n, hs.length = n := ⟨_, rfl⟩
  have hgn : rs.length = 8 := hok.rl
  have hmn : ms.length = 128 := hok.ml
  have em : MacA.v ⟨⟨rs, ms, hs, cy0, st0⟩, GA, MA, HX, gc, mc, xc⟩ = .agg #[.slice GA 8 gc, .slice MA 128 mc, .slice HX hn xc, .int .i64 cy0, .int .i64 st0] := by
    unfold MacA.v MacA.lst
    simp only [hgn, hmn, hhn]
  have em2 : MacA.lst ⟨⟨rs, ms, hs, cy0, st0⟩, GA, MA, HX, gc, mc, xc⟩ = [.slice GA 8 gc, .slice MA 128 mc, .slice HX hn xc, .int .i64 cy0, .int .i64 st0] := by
    unfold MacA.lst
    simp only [hgn, hmn, hhn]
  have ev : u.v = .agg u.lst.toArray := rfl
  rw [em2] at CM
  rw [ev, em]
  obtain ⟨cyc, hcyc⟩ : ∃ c, cycF u.d.code = c := ⟨_, rfl⟩
  obtain ⟨stc, hstc⟩ : ∃ c, stlF u.d.code = c := ⟨_, rfl⟩
  rw [hcyc, hstc] at htm CT
  obtain ⟨⟨t1, t2⟩, t3, t4⟩ := htm
  obtain ⟨MM, hMM⟩ : ∃ m : Mac, (⟨rs, ms, hs, cy0, st0⟩ : Mac) = m := ⟨_, rfl⟩
  have hMO : MacOk u.d MM := hMM ▸ hok
  simp only [hMM]
  have HMM := Lib.hid hMM
  have HMO := Lib.hid hMO
  have HP := Lib.hid hp
  have HV := Lib.hid hv
  have HW := Lib.hid hw
  have HOK := Lib.hid hok
  have HCN := Lib.hid hcn
  have HRN := Lib.hid hrn
  have HHN := Lib.hid hhn
  have HGN := Lib.hid hgn
  have HMN := Lib.hid hmn
  have HCYC := Lib.hid hcyc
  have HSTC := Lib.hid hstc
  have HGA := Lib.hid hga
  have HMA := Lib.hid hma
  have HHA := Lib.hid hha
  rw [hhn] at hl3
  rw [hcn] at hpos
  rw [hrn] at hrl
  clear em em2 ev hp hga hma hha hm hw hv hok hcn hrn hhn hgn hmn hcyc hstc hfc hMM hMO
  go_enter Tryd.func37, Tryd.ntmps37
  go_upto_region 1 with fail
  obtain ⟨bp, bm, br, hb0⟩ := entry3R w u.lst [.slice GA 8 gc, .slice MA 128 mc, .slice HX hn xc, .int .i64 cy0, .int .i64 st0] zeros5 _ rfl
  change Code.wp _ _ _ _ (((w.alloc (.cells u.lst.toArray 43)).alloc (.cells [.slice GA 8 gc, .slice MA 128 mc, .slice HX hn xc, .int .i64 cy0, .int .i64 st0].toArray 46)).alloc (.cells zeros5.toArray 46))
  generalize (((w.alloc (.cells u.lst.toArray 43)).alloc (.cells [.slice GA 8 gc, .slice MA 128 mc, .slice HX hn xc, .int .i64 cy0, .int .i64 st0].toArray 46)).alloc (.cells zeros5.toArray 46)) = W0 at bp bm br hb0 ⊢
  have HB0 := Lib.hid hb0
  have HP0 := Lib.hid bp
  have HM0 := Lib.hid bm
  have HR0 := Lib.hid br
  clear hb0 bp bm br
  obtain ⟨gp, hgp⟩ : ∃ g, w.heap.size = g := ⟨_, rfl⟩
  have HGP := Lib.hid hgp
  rw [hgp] at HP0 HM0 HR0 ⊢
  clear hgp
  go_upto_region 3 with (first
    | ((with_reducible show wpList _ _ _ (Oper.mk _ (.load 43 _) _ _ _ _ :: _) _ _); refine ld_prg HP0.out (lst_ten u) rfl _ rfl rfl ?_)
    | (go_at_call 29; (with_reducible refine (CV.out _ HB0.out).mono ?_); rintro e1 w1 ⟨rfl, hb1⟩))
  have HB1 := Lib.hid (below_then HB0.out hb1)
  have HP1 := Lib.hid (HP0.out.keep hb1)
  have HM1 := Lib.hid (HM0.out.keep hb1)
  have HR1 := Lib.hid (HR0.out.keep hb1)
  clear hb1 HB0 HP0 HM0 HR0 CV
  go_upto_region 5 with (first
    | ((with_reducible show wpList _ _ _ (Oper.mk _ (.load 43 _) _ _ _ _ :: _) _ _); refine ld_prg HP1.out (lst_ten u) rfl _ rfl rfl ?_)
    | ((with_reducible show wpList _ _ _ (Oper.mk _ (.load 46 _) _ _ _ _ :: _) _ _); refine ld_mac HM1.out rfl rfl _ rfl rfl ?_)
    | (go_at_call 40; (with_reducible refine (CM.out _ HB1.out).mono ?_); rintro e1 w2 ⟨rfl, hb2⟩))
  have HB2 := Lib.hid (below_then HB1.out hb2)
  have HP2 := Lib.hid (HP1.out.keep hb2)
  have HM2 := Lib.hid (HM1.out.keep hb2)
  have HR2 := Lib.hid (HR1.out.keep hb2)
  clear hb2 HB1 HP1 HM1 HR1 CM
  have x0 : w2.cell? ⟨gp, 0, none⟩ = some (.int .i64 u.d.d0) := HP2.out.2.1 0
  have x1 : w2.cell? ⟨gp, 1, none⟩ = some (.int .i64 u.d.d1) := HP2.out.2.1 1
  have x2 : w2.cell? ⟨gp, 2, none⟩ = some (.int .i64 u.d.d2) := HP2.out.2.1 2
  have x3 : w2.cell? ⟨gp, 3, none⟩ = some (.int .i64 u.d.d3) := HP2.out.2.1 3
  go_upto_region 7 with (go_at_call 67; (with_reducible refine (CF.out _ _ HW.out).mono ?_); rintro e1 w3 ⟨rfl, hb3⟩)
  have HB3 := Lib.hid (below_then HB2.out hb3)
  have HP3 := Lib.hid (HP2.out.keep hb3)
  have HM3 := Lib.hid (HM2.out.keep hb3)
  have HR3 := Lib.hid (HR2.out.keep hb3)
  clear hb3 HB2 HP2 HM2 HR2 x0 x1 x2 x3
  obtain ⟨B, hB⟩ : ∃ B, w3.heap.size = B := ⟨_, rfl⟩
  have HBE := Lib.hid hB
  have HGB : Hid (gp + 2 < B) := by have := HR3.out.1; rw [← hB]; exact Lib.hid this
  clear hB
  refine wp_region_grow3 14 (fun w' => Below w3.heap.size w3 w') (fun j v a b => Below a.heap.size a b ∧ cpG rs ms hs j v a b) (cpF B (gp + 1) GA MA HX gc mc hn xc rs ms hs) (by kernel_rfl) (by kernel_rfl) (Below.drew (Below.refl _ _)) (fun _ _ a b h1 h2 => ⟨below_then h1 h2.1, fun i _ v => cpF_keep h2.1 i v⟩) ?_ ?_
  · refine ⟨?_, ?_, ?_, ?_, ?_, ?_, ?_, ?_, ?_, ?_, ?_, ?_, ?_, ?_, trivial⟩
    all_goals
      intro vs w5 hp hF hPr
      have m5 := HM3.out.keep hp
      have HI5 := Lib.hid (below_then HB3.out hp)
      have HQ5 : Hid (B ≤ w5.heap.size) := by have := hp.size; have := HBE.out; exact Lib.hid (by omega)
      obtain ⟨y0, y1, y2, y3, y4⟩ := m5.c5
      clear hp m5
      simp [depsB, Region.binds, cpF] at hF
      simp [stL, depsB, Region.binds, Act.put, hF]
    · go_wp2_with fail
      exact ⟨⟨_, rfl⟩, (Below.refl _ _).alloc (Nat.le_refl _) _, trivial⟩
    · go_wp2_with fail
      exact ⟨rfl, Below.refl _ _, trivial⟩
    · go_wp2_with fail
      exact ⟨rfl, Below.refl _ _, trivial⟩
    · obtain ⟨⟨p, e0⟩, e2⟩ := hF
      refine app_fresh (p := p) w5 rfl _ _ rfl (by exact e0) (by first | exact e2 | rfl) HGN.out (HGA.out.grow HI5.out) (by decide) ?_
      intro v' w6 h1 h2 h3
      have h4 := h2 (by intro e; have := HGN.out; rw [e] at this; cases this)
      exact wpList_nil ⟨rfl, _, rfl, h4.base HQ5.out, h3, h4⟩
    · go_wp2_with fail
      exact ⟨⟨_, rfl⟩, (Below.refl _ _).alloc (Nat.le_refl _) _, trivial⟩
    · go_wp2_with fail
      exact ⟨rfl, Below.refl _ _, trivial⟩
    · go_wp2_with fail
      exact ⟨rfl, Below.refl _ _, trivial⟩
    · obtain ⟨⟨p, e4⟩, e6, -⟩ := hF
      refine app_fresh (p := p) w5 rfl _ _ rfl (by exact e4) (by first | exact e6 | rfl) HMN.out (HMA.out.grow HI5.out) (by decide) ?_
      intro v' w6 h1 h2 h3
      have h4 := h2 (by intro e; have := HMN.out; rw [e] at this; cases this)
      exact wpList_nil ⟨rfl, _, rfl, h4.base HQ5.out, h3, h4⟩
    · go_wp2_with fail
      exact ⟨⟨_, rfl⟩, (Below.refl _ _).alloc (Nat.le_refl _) _, trivial⟩
    · go_wp2_with fail
      exact ⟨rfl, Below.refl _ _, trivial⟩
    · go_wp2_with fail
      exact ⟨rfl, Below.refl _ _, trivial⟩
    · obtain ⟨⟨p, e8⟩, e10, -⟩ := hF
      refine app_fresh (p := p) w5 rfl _ _ rfl (by exact e8) (by first | exact e10 | rfl) HHN.out (HHA.out.grow HI5.out) (by omega) ?_
      intro v' w6 h1 h2 h3
      exact wpList_nil ⟨rfl, _, rfl, ⟨h1, fun n => (h2 n).base HQ5.out⟩, h3, h2⟩
    · obtain ⟨h3, h7, ⟨A2, c2, e11⟩, h11⟩ := hF
      have p1 : ∀ q, (vs 3).ownBlock = some q → (vs 7).ownBlock ≠ some q := by
        rcases hPr 3 7 rfl rfl (by decide) with ⟨wa, wb, f, -, g⟩ | ⟨wa, wb, f, -, g⟩
        · exact apart_prior (show Own B wa (vs 3) rs from f) (show Own wa.heap.size wb (vs 7) ms from g)
        · exact fun q e e' => apart_prior (show Own B wa (vs 7) ms from f) (show Own wa.heap.size wb (vs 3) rs from g) q e' e
      have p2 : hs ≠ [] → ∀ q, (vs 11).ownBlock = some q → (vs 3).ownBlock ≠ some q := fun hne => by
        rcases hPr 3 11 rfl rfl (by decide) with ⟨wa, wb, f, -, g⟩ | ⟨wa, wb, f, -, g⟩
        · exact fun q e e' => apart_prior (show Own B wa (vs 3) rs from f) ((show hs ≠ [] → Own wa.heap.size wb (vs 11) hs from g) hne) q e' e
        · exact apart_prior ((show (∃ A c, vs 11 = .slice A hn c) ∧ (hs ≠ [] → Own B wa (vs 11) hs) from f).2 hne) (show Own wa.heap.size wb (vs 3) rs from g)
      have p3 : hs ≠ [] → ∀ q, (vs 11).ownBlock = some q → (vs 7).ownBlock ≠ some q := fun hne => by
        rcases hPr 7 11 rfl rfl (by decide) with ⟨wa, wb, f, -, g⟩ | ⟨wa, wb, f, -, g⟩
        · exact fun q e e' => apart_prior (show Own B wa (vs 7) ms from f) ((show hs ≠ [] → Own wa.heap.size wb (vs 11) hs from g) hne) q e' e
        · exact apart_prior ((show (∃ A c, vs 11 = .slice A hn c) ∧ (hs ≠ [] → Own B wa (vs 11) hs) from f).2 hne) (show Own wa.heap.size wb (vs 7) ms from g)
      obtain ⟨A0, c0, e3, -⟩ := own_form h3.1
      obtain ⟨A1, c1, e7, -⟩ := own_form h7.1
      rw [HGN.out] at e3
      rw [HMN.out] at e7
      rw [e3, e7] at p1
      rw [e11, e3] at p2
      rw [e11, e7] at p3
      rw [e3] at h3
      rw [e7] at h7
      rw [e11] at h11
      simp [e3, e7, e11]
      refine wp_bldR rfl 46 _ rfl _ rfl (built_mac3 A0 A1 A2 8 c0 128 c1 hn c2) ?_
      exact wpList_nil ⟨rfl, _, rfl, ⟨_, _, A2, c2, rfl, h3, h7, h11, p1, fun n q e => ⟨p2 n q e, p3 n q e⟩⟩, Below.refl _ _, trivial⟩
    · go_wp2_with fail
      have hbx : Box (w5.alloc (.cells zeros5.toArray 46)) w5.heap.size zeros5 := Box.new rfl
      exact ⟨⟨_, rfl, hbx, ⟨_, _, heap_alloc_new w5 _⟩, HQ5.out⟩, Below.alloc (Below.refl _ _) (Nat.le_refl _) _, trivial⟩
  rintro vs w5 hC hF -
  obtain ⟨a, c, A2, c3, e12, h3, h7, h11, p1, p2⟩ := hF 12 (by decide)
  obtain ⟨gx, e13, hbx, hty, hqB⟩ := hF 13 (by decide)
  obtain ⟨ga, c1, ea⟩ := own_some h3 (by rw [HGN.out]; decide)
  obtain ⟨ma, c2, ec⟩ := own_some h7 (by rw [HMN.out]; decide)
  rw [HGN.out] at ea
  rw [HMN.out] at ec
  subst ea ec
  simp [stL, Act.put, e12, e13]
  clear hF e12 e13
  refine st_mac (L := [.slice (some ⟨ga, 0, none⟩) 8 c1, .slice (some ⟨ma, 0, none⟩) 128 c2, .slice A2 hn c3, .int .i64 0, .int .i64 0]) hbx rfl rfl rfl rfl _ _ rfl rfl rfl ?_
  intro w6 hb6 hg6
  have HSM : Hid (SmAt B w6 gx ga ma c1 c2 hn c3 A2 0 0 rs ms hs) := by
    have n1 := own_ne h3.1 hty (by decide)
    have n2 := own_ne h7.1 hty (by decide)
    have n4 : hs ≠ [] → (Value.slice A2 hn c3).ownBlock ≠ some gx := fun n => own_ne (h11 n).1 hty (by decide)
    exact Lib.hid ⟨hb6, own_keptI h3 hg6 n1, own_keptI h7 hg6 n2, HHN.out, fun n => own_keptI (h11 n) hg6 (n4 n), fun e => n1 (by rw [← e]; rfl), fun e => n2 (by rw [← e]; rfl), fun e => p1 ga rfl (by rw [e]; rfl), fun n => ⟨n4 n, fun e => (p2 n ga e).1 rfl, fun e => (p2 n ma e).2 rfl⟩, hqB⟩
  have HB6 : Hid (Below B w3 w6) := by have := grown_toI (below_then (Below.refl w3.heap.size w3) hC) hg6 (by have := HBE.out; omega); rw [← HBE.out]; exact Lib.hid this
  refine wpList_nil ⟨rfl, ?_⟩
  clear hC hbx hty hqB h3 h7 h11 p1 p2 hb6 hg6
  generalize vs 0 = v0
  generalize vs 1 = v1
  generalize vs 2 = v2
  generalize vs 3 = v3
  generalize vs 4 = v4
  generalize vs 5 = v5
  generalize vs 6 = v6
  generalize vs 7 = v7
  generalize vs 8 = v8
  generalize vs 9 = v9
  generalize vs 10 = v10
  generalize vs 11 = v11
  have HP6 : Hid (Box w6 gp u.lst) := Lib.hid (HP3.out.keep (by rw [HBE.out]; exact HB6.out))
  have HM6 : Hid (Box w6 (gp + 1) [.slice GA 8 gc, .slice MA 128 mc, .slice HX hn xc, .int .i64 cy0, .int .i64 st0]) := Lib.hid (HM3.out.keep (by rw [HBE.out]; exact HB6.out))
  have HI6 : Hid (InsAt w6 u.CA u.d.code) := Lib.hid ((HP.out.2.grow HB3.out).grow (by rw [HBE.out]; exact HB6.out))
  have x9 : w6.cell? ⟨gp, 9, none⟩ = some (.slice u.CA cn u.cc) := (HP6.out.2.1 9).trans (lst_nine HCN.out)
  simp only [Act.put]
  go_upto_region 9 with (go_at_call 31; (with_reducible refine (CT.out _ _ _ HI6.out).mono ?_); rintro e1 w7 ⟨rfl, hb7⟩)
  have HSM7 := Lib.hid (HSM.out.grow hb7)
  have HB7 := Lib.hid (HB6.out.trans (hb7.mono (by have := HB6.out.size; have := HBE.out; omega)))
  have HM7 := Lib.hid (HM6.out.keep hb7)
  clear hb7 HSM HB6 HM6 HP6 HI6 x9 CT
  have hcs : 0 ≤ cyc ∧ cyc ≤ 2048 := ⟨t1, t2⟩
  have wc : IntKind.i64.wrap (cy0 + cyc) = cy0 + cyc := IntWalk.i64_in _ (by omega)
  have ws : IntKind.i64.wrap (st0 + stc) = st0 + stc := IntWalk.i64_in _ (by omega)
  refine wp_region_grow 12 (cyC w7 gx (.slice (some ⟨ga, 0, none⟩) 8 c1) (.slice (some ⟨ma, 0, none⟩) 128 c2) (.slice A2 hn c3)) (cyG gx (cy0 + cyc) (st0 + stc)) (cyF (gp + 1) gx cy0 cyc st0 stc) (by kernel_rfl) (by kernel_rfl) ⟨drew_grown w7 _, _, _, HSM7.out.box.keep (drew_belowS w7)⟩ (fun a b h1 h2 => ⟨h2.2.2 _ _ _ _ h1, fun i _ v => cyF_keep h2 i v⟩) ?_ ?_
  · have hgg : gp + 1 ≠ gx := by have := HSM7.out.hb; have := HGB.out; omega
    have HGG := Lib.hid hgg
    clear hgg
    refine ⟨?_, ?_, ?_, ?_, ?_, ?_, ?_, ?_, ?_, ?_, ?_, ?_, trivial⟩
    all_goals
      intro vs w5 hp hF
      obtain ⟨hgr, cc, sc, hbx⟩ := hp
      have m5 := Box.grown HM7.out hgr (by intro e; injection e with e; exact HGG.out e)
      obtain ⟨-, -, -, y3, y4⟩ := m5.c5
      obtain ⟨-, -, -, z3, z4⟩ := hbx.c5
      have f3 := hbx.2.2 3
      have f4 := hbx.2.2 4
      have HBX := Lib.hid hbx
      have HGR := Lib.hid hgr
      clear m5 hbx hgr
      simp [depsB, Region.binds, cyF] at hF
      simp [stL, depsB, Region.binds, Act.put, hF]
    all_goals first
      | (go_wp2_with fail; exact ⟨rfl, cyG.refl _ _ _ _⟩)
      | (go_wp2_with fail; exact ⟨⟨undef, cyF_three HBX.out⟩, cyG.three HBX.out⟩)
      | (go_wp2_with fail; exact ⟨⟨undef, cyF_four HBX.out⟩, cyG.four HBX.out⟩)
  intro vs w8 hp hF
  obtain ⟨hgr, cc, sc, hbx⟩ := hp
  have e9 : w8.cell? ⟨gx, 3, none⟩ = some (.int .i64 (cy0 + cyc)) := hF 9 (by decide)
  have e11 : w8.cell? ⟨gx, 4, none⟩ = some (.int .i64 (st0 + stc)) := hF 11 (by decide)
  have HSM8 := Lib.hid (HSM7.out.cyc hgr hbx e9 e11)
  have HB8 : Hid (Below B w3 w8) := Lib.hid (HB7.out.grown hgr (by have := HB7.out.size; have := HBE.out; omega) (fun k e => by injection e with e; rw [← e]; exact HSM7.out.hb))
  clear hF e9 e11 hgr hbx HSM7 HB7 HM7 wc ws
  show wpList Tryd.prog _ _ [] _ _
  simp [stL, Act.put]
  refine wpList_nil ⟨rfl, ?_⟩
  generalize vs 0 = z0
  generalize vs 1 = z1
  generalize vs 2 = z2
  generalize vs 3 = z3
  generalize vs 4 = z4
  generalize vs 5 = z5
  generalize vs 6 = z6
  generalize vs 7 = z7
  generalize vs 8 = z8
  generalize vs 10 = z10
  have HP8 : Hid (Box w3 gp u.lst) := HP3
  clear HMA HGA HHA HGN HMN HM3 t1 t2 t3 t4 hcs
  go_wp2_with fail
  go_loopw [14, 15, 16, 17] (fun a b c d wr => ∃ (j : Nat) (s : Smp), j ≤ cn ∧ a = .int .i64 s.sum ∧ b = .int .i64 s.out ∧ c = .bool s.ov ∧ d = .int .i64 j ∧ Hid (sampF u.d y MM (u.d.code.take j) = s) ∧ Hid (SmAt B wr gx ga ma c1 c2 hn c3 A2 (cy0 + cyc) (st0 + stc) s.regs s.mem s.heads) ∧ Hid (Below B w3 wr)) (fun _ _ _ d _ => cn - (intOf d).toNat)
  case atStart => exact ⟨0, smp0 MM, Nat.zero_le _, rfl, rfl, rfl, rfl, Lib.hid rfl, by rw [← HMM.out]; exact HSM8, HB8⟩
  case round =>
    obtain ⟨j, s, hj, rfl, rfl, rfl, rfl, HSF, HX, HBj⟩ := hrel
    have HBJ : Hid (Below w3.heap.size w3 wr) := by rw [HBE.out]; exact HBj
    have x9 : wr.cell? ⟨gp, 9, none⟩ = some (.slice u.CA cn u.cc) := ((HP3.out.keep HBJ.out).2.1 9).trans (lst_nine HCN.out)
    by_cases hjl : j < cn
    · obtain ⟨i, hi⟩ : ∃ i, u.d.code[j]? = some i := ⟨_, List.getElem?_eq_getElem (by rw [HCN.out]; exact hjl)⟩
      have HJI := Lib.hid hi
      obtain ⟨ac, hA, hs, hbk, hr, oki⟩ := ((HP.out.2.grow HB3.out).grow HBJ.out) j i hi
      have HSU : Hid (suitB u.d i = true) := Lib.hid (suit_mem HV.out i (List.mem_of_getElem? hi))
      have HSP := Lib.hid hs
      have HRR := Lib.hid hr
      have q3 : (0 : Int) ≤ (j : Int) := by omega
      have q4 : (j : Int) < (cn : Int) := by omega
      have wj : IntKind.i64.wrap ((j : Int) + 1) = ((j + 1 : Nat) : Int) := (IntWalk.i64_in _ (by omega)).trans (by omega)
      have HSO : Hid (SmpOk u.d s) := Lib.hid (HSF.out ▸ samp_take HV.out HW.out HMO.out j)
      rw [hA] at x9
      clear hi hs hbk hr oki hA
      go_upto_region 15 with (first
        | ((with_reducible show wpList _ _ _ (Oper.mk _ (.load 24 _) _ _ _ _ :: _) _ _); refine ld_insA HSP.out HRR.out rfl _ rfl rfl ?_)
        | ((with_reducible show wpList _ _ _ (Oper.mk _ (.store 24 _ _) _ _ _ _ :: _) _ _); refine st_ins (w := wr.alloc (.cells Ins.zero.cells.toArray 24)) (g := wr.heap.size) (i := Ins.zero) (j := i) (Box.new rfl) rfl _ _ rfl rfl rfl ?_; intro W2 b2 p2))
      have hb2 := put_facts ((Below.refl wr.heap.size wr).alloc (Nat.le_refl _) (.cells Ins.zero.cells.toArray 24)) (Nat.le_refl _) p2
      have HX2 := Lib.hid (HX.out.grow hb2)
      have hBi : B ≤ wr.heap.size := by have := HBj.out.size; have := HBE.out; omega
      have HB2 := Lib.hid (HBj.out.trans (hb2.mono hBi))
      have HBI := Lib.hid b2
      have HNG : Hid (gx < wr.heap.size ∧ ga < wr.heap.size ∧ ma < wr.heap.size) := Lib.hid ⟨HX.out.box.1, HX.out.regs.block.2, HX.out.mem.block.2⟩
      have HNH0 : Hid (∀ q, (Value.slice A2 hn c3).ownBlock = some q → s.heads ≠ [] → q < wr.heap.size) := Lib.hid fun q e n => own_lt (HX.out.heads n) q e
      have HBJ2 : Hid (Below w3.heap.size w3 W2) := by rw [HBE.out]; exact HB2
      clear b2 p2 hb2 hBi x9 HX HBj HBJ HSP HRR
      generalize wr.heap.size = gi at HBI HNG HNH0 ⊢
      have HTK := Lib.hid (take_snoc' HJI.out)
      obtain ⟨f1, f2, f3, f4, f5⟩ := fld_reg (suit_formed HSU.out)
      have hops := ops12 (suit_formed HSU.out)
      obtain ⟨op, a, bb, imm⟩ := i
      simp only at f1 f2 f3 f4 f5 hops
      obtain ⟨z0, z1, z2, z3⟩ := HBI.out.c4
      go_upto_region 16 with fail
      clear z0 z1 z2 z3
      rcases hops with rfl | rfl | rfl | rfl | rfl | rfl | rfl | rfl | rfl | rfl | rfl | rfl
      · as_aux_lemma =>
          clear f1 f2 f3 f4 f5
          go_wp2_with fail
          go_roundw
          case rel => exact ⟨j + 1, s, by omega, rfl, rfl, rfl, by go_num, by rw [HTK.out, sampF_snoc, HSF.out]; exact Lib.hid rfl, HX2, HB2⟩
          case measure => simp [intOf]; omega
      · as_aux_lemma =>
          clear f1 f2 f3 f4 f5
          go_wp2_with fail
          go_roundw
          case rel => exact ⟨j + 1, { s with sum := 0 }, by omega, rfl, rfl, rfl, by go_num, by rw [HTK.out, sampF_snoc, HSF.out]; exact Lib.hid rfl, HX2, HB2⟩
          case measure => simp [intOf]; omega
      · as_aux_lemma =>
          obtain ⟨a0, a1⟩ := f1 (by simp)
          obtain ⟨ka, rfl⟩ := Int.eq_ofNat_of_zero_le a0
          have ka8 : ka < 8 := by omega
          have kap : (0 : Int) ≤ (ka : Int) := by omega
          have kaq : (ka : Int) < 8 := by omega
          obtain ⟨rv, hrv⟩ : ∃ v, s.regs.getD ka 0 = v := ⟨_, rfl⟩
          have rvb := fitD_bound (wordD_at HSO.out.st.rw (k := ka) (by rw [HSO.out.st.rl]; exact ka8))
          rw [hrv] at rvb
          have Hrv := Lib.hid hrv
          clear hrv
          have hip := (formed_parts (suit_formed HSU.out)).2.2.2
          simp only at hip
          obtain ⟨p, hpp⟩ : ∃ p, rv * imm = p := ⟨_, rfl⟩
          have hpb := mul_bound (x := rv) (y := imm) (B := 8388608) (C := 8388608) ⟨by omega, by omega⟩ hip
          rw [hpp] at hpb
          have p1 : -9223372036854775808 ≤ p := by omega
          have p2 : p ≤ 9223372036854775807 := by omega
          obtain ⟨q, hq⟩ : ∃ q, IntKind.i64.wrap (s.sum + p) = q := ⟨_, rfl⟩
          have hq2 : wrap64 (s.sum + p) = q := (IntWalk.i64_left _).symm.trans hq
          have wp : IntKind.i64.wrap (rv * imm) = p := by rw [hpp]; exact IntWalk.i64_in _ (by omega)
          have HQ := Lib.hid hq2
          have HPP := Lib.hid hpp
          clear hip hpb hq2
          clear f1 f2 f3 f4 f5
          have HE : Hid (stepM u.d y s ⟨2, (ka : Int), bb, imm⟩ = { s with sum := q }) := Lib.hid (by show ({ s with sum := wrap64 (s.sum + s.regs.getD ka 0 * imm) } : Smp) = _; rw [Hrv.out, HPP.out, HQ.out])
          go_upto_region 19 with fail
          refine wp_region_grow8 (fun x => Nat.blt x 11) (fun _ => false) (fun w2 => Below W2.heap.size W2 w2) (fun a b => Below a.heap.size a b) (dF W2.heap.size [.v (.int .i64 s.sum), .v (.pointer (some ⟨gx, 0, none⟩)), .v (.slice (some ⟨ga, 0, none⟩) 8 c1), .v (.pointer (some ⟨gi, 1, none⟩)), .v (.int .i64 (ka : Int)), .v (.pointer (some ⟨ga, ka, none⟩)), .v (.int .i64 rv), .v (.pointer (some ⟨gi, 3, none⟩)), .v (.int .i64 imm), .v (.int .i64 p), .v (.int .i64 q)]) (by kernel_rfl) (by kernel_rfl) (Below.drew (Below.refl _ _)) (fun a b h1 h2 => ⟨below_then h1 h2, fun i _ v => dF_keep h2 i v⟩) (fun w _ => Below.refl _ _) ?_ (fun j o _ _ h => by cases h) ?_
          · refine ⟨?_, ?_, ?_, ?_, ?_, ?_, ?_, ?_, ?_, ?_, ?_, trivial⟩
            all_goals
              intro vs w5 hp hF
              have hx5 := HX2.out.grow hp
              have hb5 := HBI.out.keep hp
              obtain ⟨y0, y1, y2, y3, y4⟩ := hx5.box.c5
              obtain ⟨z0, z1, z2, z3⟩ := hb5.c4
              have c1x : w5.cell? ⟨ga, ka, none⟩ = some (.int .i64 rv) := by rw [← Hrv.out]; exact own_getD hx5.regs (by rw [HSO.out.st.rl]; exact ka8)
              have HX5 := Lib.hid hx5
              have HW5 := Lib.hid hp
              clear hx5 hb5 hp
              simp [depsB, Region.binds, dF] at hF
              simp [stL, depsB, Region.binds, Act.put, hF]
            all_goals first
              | (go_wp2_with fail; exact ⟨rfl, Below.refl _ _⟩)
          intro vs w5 hp hF
          have e10 : vs 10 = .int .i64 q := hF 10 (by decide) rfl
          show wpList Tryd.prog _ _ [_] _ _
          simp [stL, Act.put, e10]
          clear hF e10
          have hx5 := HX2.out.grow hp
          have hb5 := HB2.out.trans (hp.mono (by have := HB2.out.size; have := HBE.out; omega))
          have hi5 := HBI.out.keep hp
          have HX6 := Lib.hid hx5
          have HB6 := Lib.hid hb5
          have HBI6 := Lib.hid hi5
          clear hx5 hb5 hi5 hp
          generalize vs 0 = v0x6
          generalize vs 1 = v1x6
          generalize vs 2 = v2x6
          generalize vs 3 = v3x6
          generalize vs 4 = v4x6
          generalize vs 5 = v5x6
          generalize vs 6 = v6x6
          generalize vs 7 = v7x6
          generalize vs 8 = v8x6
          generalize vs 9 = v9x6
          go_wp2_with fail
          go_roundw
          case rel => exact ⟨j + 1, { s with sum := q }, by omega, rfl, rfl, rfl, by go_num, by rw [HTK.out, sampF_snoc, HSF.out]; exact HE, HX6, HB6⟩
          case measure => simp [intOf]; omega
      · as_aux_lemma =>
          obtain ⟨a0, a1⟩ := f4 (by simp)
          obtain ⟨ka, rfl⟩ := Int.eq_ofNat_of_zero_le a0
          have ka8 : ka < 128 := by omega
          have kap : (0 : Int) ≤ (ka : Int) := by omega
          have kaq : (ka : Int) < 128 := by omega
          obtain ⟨rv, hrv⟩ : ∃ v, s.mem.getD ka 0 = v := ⟨_, rfl⟩
          have rvb := fitD_bound (wordD_at HSO.out.st.mw (k := ka) (by rw [HSO.out.st.ml]; exact ka8))
          rw [hrv] at rvb
          have Hrv := Lib.hid hrv
          clear hrv
          have hip := (formed_parts (suit_formed HSU.out)).2.2.2
          simp only at hip
          obtain ⟨p, hpp⟩ : ∃ p, rv * imm = p := ⟨_, rfl⟩
          have hpb := mul_bound (x := rv) (y := imm) (B := 8388608) (C := 8388608) ⟨by omega, by omega⟩ hip
          rw [hpp] at hpb
          have p1 : -9223372036854775808 ≤ p := by omega
          have p2 : p ≤ 9223372036854775807 := by omega
          obtain ⟨q, hq⟩ : ∃ q, IntKind.i64.wrap (s.sum + p) = q := ⟨_, rfl⟩
          have hq2 : wrap64 (s.sum + p) = q := (IntWalk.i64_left _).symm.trans hq
          have wp : IntKind.i64.wrap (rv * imm) = p := by rw [hpp]; exact IntWalk.i64_in _ (by omega)
          have HQ := Lib.hid hq2
          have HPP := Lib.hid hpp
          clear hip hpb hq2
          clear f1 f2 f3 f4 f5
          have HE : Hid (stepM u.d y s ⟨3, (ka : Int), bb, imm⟩ = { s with sum := q }) := Lib.hid (by show ({ s with sum := wrap64 (s.sum + s.mem.getD ka 0 * imm) } : Smp) = _; rw [Hrv.out, HPP.out, HQ.out])
          go_upto_region 21 with fail
          refine wp_region_grow8 (fun x => Nat.blt x 11) (fun _ => false) (fun w2 => Below W2.heap.size W2 w2) (fun a b => Below a.heap.size a b) (dF W2.heap.size [.v (.int .i64 s.sum), .v (.pointer (some ⟨gx, 1, none⟩)), .v (.slice (some ⟨ma, 0, none⟩) 128 c2), .v (.pointer (some ⟨gi, 1, none⟩)), .v (.int .i64 (ka : Int)), .v (.pointer (some ⟨ma, ka, none⟩)), .v (.int .i64 rv), .v (.pointer (some ⟨gi, 3, none⟩)), .v (.int .i64 imm), .v (.int .i64 p), .v (.int .i64 q)]) (by kernel_rfl) (by kernel_rfl) (Below.drew (Below.refl _ _)) (fun a b h1 h2 => ⟨below_then h1 h2, fun i _ v => dF_keep h2 i v⟩) (fun w _ => Below.refl _ _) ?_ (fun j o _ _ h => by cases h) ?_
          · refine ⟨?_, ?_, ?_, ?_, ?_, ?_, ?_, ?_, ?_, ?_, ?_, trivial⟩
            all_goals
              intro vs w5 hp hF
              have hx5 := HX2.out.grow hp
              have hb5 := HBI.out.keep hp
              obtain ⟨y0, y1, y2, y3, y4⟩ := hx5.box.c5
              obtain ⟨z0, z1, z2, z3⟩ := hb5.c4
              have c1x : w5.cell? ⟨ma, ka, none⟩ = some (.int .i64 rv) := by rw [← Hrv.out]; exact own_getD hx5.mem (by rw [HSO.out.st.ml]; exact ka8)
              have HX5 := Lib.hid hx5
              have HW5 := Lib.hid hp
              clear hx5 hb5 hp
              simp [depsB, Region.binds, dF] at hF
              simp [stL, depsB, Region.binds, Act.put, hF]
            all_goals first
              | (go_wp2_with fail; exact ⟨rfl, Below.refl _ _⟩)
          intro vs w5 hp hF
          have e10 : vs 10 = .int .i64 q := hF 10 (by decide) rfl
          show wpList Tryd.prog _ _ [_] _ _
          simp [stL, Act.put, e10]
          clear hF e10
          have hx5 := HX2.out.grow hp
          have hb5 := HB2.out.trans (hp.mono (by have := HB2.out.size; have := HBE.out; omega))
          have hi5 := HBI.out.keep hp
          have HX6 := Lib.hid hx5
          have HB6 := Lib.hid hb5
          have HBI6 := Lib.hid hi5
          clear hx5 hb5 hi5 hp
          generalize vs 0 = v0x6
          generalize vs 1 = v1x6
          generalize vs 2 = v2x6
          generalize vs 3 = v3x6
          generalize vs 4 = v4x6
          generalize vs 5 = v5x6
          generalize vs 6 = v6x6
          generalize vs 7 = v7x6
          generalize vs 8 = v8x6
          generalize vs 9 = v9x6
          go_wp2_with fail
          go_roundw
          case rel => exact ⟨j + 1, { s with sum := q }, by omega, rfl, rfl, rfl, by go_num, by rw [HTK.out, sampF_snoc, HSF.out]; exact HE, HX6, HB6⟩
          case measure => simp [intOf]; omega
      · as_aux_lemma =>
          obtain ⟨ra0, ra1, ra2⟩ := suit_ring HSU.out (.inl rfl)
          simp only at ra0 ra1 ra2
          obtain ⟨ka, rfl⟩ := Int.eq_ofNat_of_zero_le ra0
          have ka8 : ka < u.d.rg.length := by omega
          have khl : ka < s.heads.length := by rw [HSO.out.st.hl]; exact ka8
          have hhr := headsB_at HSO.out.st.hw khl
          have hne : s.heads ≠ [] := by intro e; rw [e] at khl; simp at khl
          obtain ⟨ha, hcx, hhe⟩ := own_some (HX2.out.heads hne) (by omega)
          injection hhe with e1 e2 e3
          subst e1
          rw [HX2.out.hl] at khl
          have HNE := Lib.hid hne
          have hcb : (ka : Int) < (hn : Int) := by omega
          have hka0 : (0 : Int) ≤ (ka : Int) := by omega
          clear e2 e3
          obtain ⟨rb0, rb1⟩ := ra2 trivial
          obtain ⟨kb, rfl⟩ := Int.eq_ofNat_of_zero_le rb0
          have hrin := ringIn_iff.1 (valid_ring HV.out ka8)
          have hkb2 : (kb : Int) ≤ 128 := by
            have : rgA u.d (ka : Int) = u.d.rg.getD ka (0, 0) := rfl
            rw [this] at rb1
            omega
          obtain ⟨-, -, pl0, pl1⟩ := plc_in HV.out (hs := s.heads) (a := (ka : Int)) (b := (kb : Int)) ra0 ra1
          obtain ⟨pn, hpn⟩ := Int.eq_ofNat_of_zero_le pl0
          rw [hpn] at pl1
          have pn8 : pn < 128 := by omega
          have HPN := Lib.hid hpn
          have HKA := Lib.hid ka8
          have HHR := Lib.hid hhr
          obtain ⟨rv, hrv⟩ : ∃ v, s.mem.getD pn 0 = v := ⟨_, rfl⟩
          have rvb := fitD_bound (wordD_at HSO.out.st.mw (k := pn) (by rw [HSO.out.st.ml]; exact pn8))
          rw [hrv] at rvb
          have Hrv := Lib.hid hrv
          clear hrv
          have hip := (formed_parts (suit_formed HSU.out)).2.2.2
          simp only at hip
          obtain ⟨p, hpp⟩ : ∃ p, rv * imm = p := ⟨_, rfl⟩
          have hpb := mul_bound (x := rv) (y := imm) (B := 8388608) (C := 8388608) ⟨by omega, by omega⟩ hip
          rw [hpp] at hpb
          have p1 : -9223372036854775808 ≤ p := by omega
          have p2 : p ≤ 9223372036854775807 := by omega
          obtain ⟨q, hq⟩ : ∃ q, IntKind.i64.wrap (s.sum + p) = q := ⟨_, rfl⟩
          have hq2 : wrap64 (s.sum + p) = q := (IntWalk.i64_left _).symm.trans hq
          have wp : IntKind.i64.wrap (rv * imm) = p := by rw [hpp]; exact IntWalk.i64_in _ (by omega)
          have HQ := Lib.hid hq2
          have HPP := Lib.hid hpp
          clear hip hpb hq2
          have k0 : (0 : Int) ≤ (pn : Int) := by omega
          have k1 : (pn : Int) < 128 := by omega
          have k2 : (0 : Int) ≤ (kb : Int) := by omega
          have HE : Hid (stepM u.d y s ⟨4, (ka : Int), (kb : Int), imm⟩ = { s with sum := q }) := Lib.hid (by show ({ s with sum := wrap64 (s.sum + s.mem.getD (plc u.d s.heads (ka : Int) (kb : Int)).toNat 0 * imm) } : Smp) = _; rw [HPN.out, Int.toNat_natCast, Hrv.out, HPP.out, HQ.out])
          have HJJ := HBJ2
          clear hpn hhr hrin pl0 rb0 rb1 ra2 f1 f2 f3 f4 f5
          have CP : Hid (∀ w1, Below W2.heap.size W2 w1 → Calls Tryd.prog 68 #[.agg u.lst.toArray, .agg #[.slice (some ⟨ga, 0, none⟩) 8 c1, .slice (some ⟨ma, 0, none⟩) 128 c2, .slice (some ⟨ha, 0, none⟩) hn c3, .int .i64 (cy0 + cyc), .int .i64 (st0 + stc)], .int .i64 (ka : Int), .int .i64 (kb : Int)] w1 fun e w' => e = .returned (.int .i64 (pn : Int)) ∧ Below w1.heap.size w1 w') := Lib.hid fun w1 hb => by
            rw [← HPN.out]
            exact r39_place u _ _ _ 8 c1 128 c2 hn c3 ka s.heads (cy0 + cyc) (st0 + stc) (kb : Int) w1 ((HP.out.1.grow HB3.out).grow (HJJ.out.trans (hb.mono (by have := HJJ.out.size; omega)))) HV.out (HX2.out.grow hb).ints HX2.out.hl HKA.out khl HHR.out (by omega)
          go_upto_region 23 with fail
          refine wp_region_grow8 (fun x => Nat.blt x 16) (fun _ => false) (fun w2 => Below W2.heap.size W2 w2) (fun a b => Below a.heap.size a b) (dF W2.heap.size [.v (.int .i64 s.sum), .v (.pointer (some ⟨gx, 1, none⟩)), .v (.slice (some ⟨ma, 0, none⟩) 128 c2), .v (.agg u.lst.toArray), .v (.agg #[.slice (some ⟨ga, 0, none⟩) 8 c1, .slice (some ⟨ma, 0, none⟩) 128 c2, .slice (some ⟨ha, 0, none⟩) hn c3, .int .i64 (cy0 + cyc), .int .i64 (st0 + stc)]), .v (.pointer (some ⟨gi, 1, none⟩)), .v (.int .i64 (ka : Int)), .v (.pointer (some ⟨gi, 2, none⟩)), .v (.int .i64 (kb : Int)), .v (.int .i64 (pn : Int)), .v (.pointer (some ⟨ma, pn, none⟩)), .v (.int .i64 rv), .v (.pointer (some ⟨gi, 3, none⟩)), .v (.int .i64 imm), .v (.int .i64 p), .v (.int .i64 q)]) (by kernel_rfl) (by kernel_rfl) (Below.drew (Below.refl _ _)) (fun a b h1 h2 => ⟨below_then h1 h2, fun i _ v => dF_keep h2 i v⟩) (fun w _ => Below.refl _ _) ?_ (fun j o _ _ h => by cases h) ?_
          · refine ⟨?_, ?_, ?_, ?_, ?_, ?_, ?_, ?_, ?_, ?_, ?_, ?_, ?_, ?_, ?_, ?_, trivial⟩
            all_goals
              intro vs w5 hp hF
              have hx5 := HX2.out.grow hp
              have hb5 := HBI.out.keep hp
              obtain ⟨y0, y1, y2, y3, y4⟩ := hx5.box.c5
              obtain ⟨z0, z1, z2, z3⟩ := hb5.c4
              have c1x : w5.cell? ⟨ma, pn, none⟩ = some (.int .i64 rv) := by rw [← Hrv.out]; exact own_getD hx5.mem (by rw [HSO.out.st.ml]; exact pn8)
              have HP5 : Hid (Box w5 gp u.lst) := Lib.hid ((HP3.out.keep HJJ.out).keep hp)
              have HX5 := Lib.hid hx5
              have HW5 := Lib.hid hp
              clear hx5 hb5 hp
              simp [depsB, Region.binds, dF] at hF
              simp [stL, depsB, Region.binds, Act.put, hF]
            all_goals first
              | (go_wp2_with fail; exact ⟨rfl, Below.refl _ _⟩)
              | (refine ld_prg (HP5.out) (lst_ten u) rfl _ rfl rfl ?_; refine wpList_nil ?_; exact ⟨rfl, _, rfl, rfl, Below.refl _ _⟩)
              | (refine ld_macS HX5.out rfl _ rfl rfl ?_; refine wpList_nil ?_; exact ⟨rfl, _, rfl, rfl, Below.refl _ _⟩)
              | (go_wp2_with (go_at_call 68; (with_reducible refine (CP.out _ HW5.out).mono ?_); rintro e6 w6 ⟨rfl, hb6⟩); first | exact ⟨rfl, hb6⟩ | rfl)
          intro vs w5 hp hF
          have e15 : vs 15 = .int .i64 q := hF 15 (by decide) rfl
          show wpList Tryd.prog _ _ [_] _ _
          simp [stL, Act.put, e15]
          clear hF e15
          have hx5 := HX2.out.grow hp
          have hb5 := HB2.out.trans (hp.mono (by have := HB2.out.size; have := HBE.out; omega))
          have hi5 := HBI.out.keep hp
          have HX6 := Lib.hid hx5
          have HB6 := Lib.hid hb5
          have HBI6 := Lib.hid hi5
          clear hx5 hb5 hi5 hp
          generalize vs 0 = v0x6
          generalize vs 1 = v1x6
          generalize vs 2 = v2x6
          generalize vs 3 = v3x6
          generalize vs 4 = v4x6
          generalize vs 5 = v5x6
          generalize vs 6 = v6x6
          generalize vs 7 = v7x6
          generalize vs 8 = v8x6
          generalize vs 9 = v9x6
          generalize vs 10 = v10x6
          generalize vs 11 = v11x6
          generalize vs 12 = v12x6
          generalize vs 13 = v13x6
          generalize vs 14 = v14x6
          go_wp2_with fail
          go_roundw
          case rel => exact ⟨j + 1, { s with sum := q }, by omega, rfl, rfl, rfl, by go_num, by rw [HTK.out, sampF_snoc, HSF.out]; exact HE, HX6, HB6⟩
          case measure => simp [intOf]; omega
      · as_aux_lemma =>
          obtain ⟨a0, a1⟩ := f1 (by simp)
          obtain ⟨ka, rfl⟩ := Int.eq_ofNat_of_zero_le a0
          have ka8 : ka < 8 := by omega
          have kap : (0 : Int) ≤ (ka : Int) := by omega
          have kaq : (ka : Int) < 8 := by omega
          have hV64 := HSO.out.sum
          obtain ⟨V, hV⟩ : ∃ v, shD u.d s.sum = v := ⟨_, rfl⟩
          obtain ⟨rd, hrd⟩ : ∃ v, redD u.d V = v := ⟨_, rfl⟩
          obtain ⟨fb, hfb⟩ : ∃ v, fitD u.d V = v := ⟨_, rfl⟩
          have hrb := fitD_bound (fitD_red (valid_words HV.out).1 V)
          rw [hrd] at hrb
          have HE0 : Hid (stepM u.d y s ⟨5, (ka : Int), bb, imm⟩ = { s with regs := s.regs.set ka rd, ov := s.ov || !fb }) := by
            show Hid ({ s with regs := s.regs.set ka (redD u.d (shD u.d s.sum)), ov := s.ov || !fitD u.d (shD u.d s.sum) } = _)
            rw [hV, hrd, hfb]
            exact Lib.hid rfl
          have CSH : Hid (∀ w1, Calls Tryd.prog 69 #[.int .i64 s.sum, .int .i64 u.d.c1, .int .i64 u.d.d2] w1 fun e w' => e = .returned (.int .i64 V) ∧ Below w1.heap.size w1 w') := Lib.hid fun w1 => by
            rw [← hV]; exact rf_Shift s.sum u.d.c1 u.d.d2 w1 hV64
          have CFT : Hid (∀ w1, Calls Tryd.prog 67 #[wordV u.d.d0 u.d.d1 u.d.d2 u.d.d3, .int .i64 V] w1 fun e w' => e = .returned (.bool fb) ∧ Below w1.heap.size w1 w') := Lib.hid fun w1 => hfb ▸ rf_Fits _ _ _ _ V w1
          have CRD : Hid (∀ w1, Calls Tryd.prog 70 #[wordV u.d.d0 u.d.d1 u.d.d2 u.d.d3, .int .i64 V] w1 fun e w' => e = .returned (.int .i64 rd) ∧ Below w1.heap.size w1 w') := Lib.hid fun w1 => by
            rw [← hrd]; exact rf_Reduce _ _ _ _ V w1
          clear hV hrd hfb hV64 f1 f2 f3 f4 f5
          have hp2 := HP3.out.keep HBJ2.out
          have x5 : W2.cell? ⟨gp, 5, none⟩ = some (.int .i64 u.d.c1) := hp2.2.1 5
          have x2 : W2.cell? ⟨gp, 2, none⟩ = some (.int .i64 u.d.d2) := hp2.2.1 2
          clear hp2
          go_upto_region 26 with (go_at_call 69; (with_reducible refine (CSH.out _).mono ?_); rintro e1 w4 ⟨rfl, hb4⟩)
          have HX4 := Lib.hid (HX2.out.grow hb4)
          have HB4 := Lib.hid (HB2.out.trans (hb4.mono (by have := HB2.out.size; have := HBE.out; omega)))
          have HI4 := Lib.hid (HBI.out.keep hb4)
          have HJ4 : Hid (Below w3.heap.size w3 w4) := by rw [HBE.out]; exact HB4
          clear x5 x2 hb4 HX2 HB2 HBI HBJ2
          obtain ⟨ov, hov⟩ : ∃ b, s.ov = b := ⟨_, rfl⟩
          rw [hov] at HE0 ⊢
          clear hov
          have hp4 := HP3.out.keep HJ4.out
          have x0 : w4.cell? ⟨gp, 0, none⟩ = some (.int .i64 u.d.d0) := hp4.2.1 0
          have x1 : w4.cell? ⟨gp, 1, none⟩ = some (.int .i64 u.d.d1) := hp4.2.1 1
          have x2 : w4.cell? ⟨gp, 2, none⟩ = some (.int .i64 u.d.d2) := hp4.2.1 2
          have x3 : w4.cell? ⟨gp, 3, none⟩ = some (.int .i64 u.d.d3) := hp4.2.1 3
          clear hp4
          cases ov with
          | true =>
            rw [Bool.true_or] at HE0
            go_upto_region 27 with fail
            clear x0 x1 x2 x3
            refine wp_region_grow8 (fun x => Nat.blt x 9) (fun _ => false) (fun w2 => Below w4.heap.size w4 w2) (fun a b => Below a.heap.size a b) (dF w4.heap.size [.v (.pointer (some ⟨gx, 0, none⟩)), .v (.slice (some ⟨ga, 0, none⟩) 8 c1), .v (.pointer (some ⟨gi, 1, none⟩)), .v (.int .i64 (ka : Int)), .v (.pointer (some ⟨gp, 0, none⟩)), .v (.agg #[.int .i64 u.d.d0, .int .i64 u.d.d1, .int .i64 u.d.d2, .int .i64 u.d.d3]), .v (.int .i64 V), .v (.int .i64 rd), .v (.pointer (some ⟨ga, ka, none⟩))]) (by kernel_rfl) (by kernel_rfl) (Below.drew (Below.refl _ _)) (fun a b h1 h2 => ⟨below_then h1 h2, fun i _ v => dF_keep h2 i v⟩) (fun w _ => Below.refl _ _) ?_ (fun j o _ _ h => by cases h) ?_
            · refine ⟨?_, ?_, ?_, ?_, ?_, ?_, ?_, ?_, ?_, trivial⟩
              all_goals
                intro vs w5 hp hF
                have hx5 := HX4.out.grow hp
                have hb5 := HI4.out.keep hp
                obtain ⟨y0, y1, y2, y3, y4⟩ := hx5.box.c5
                obtain ⟨z0, z1, z2, z3⟩ := hb5.c4
                have hp5 := (HP3.out.keep HJ4.out).keep hp
                have x0 : w5.cell? ⟨gp, 0, none⟩ = some (.int .i64 u.d.d0) := hp5.2.1 0
                have x1 : w5.cell? ⟨gp, 1, none⟩ = some (.int .i64 u.d.d1) := hp5.2.1 1
                have x2 : w5.cell? ⟨gp, 2, none⟩ = some (.int .i64 u.d.d2) := hp5.2.1 2
                have x3 : w5.cell? ⟨gp, 3, none⟩ = some (.int .i64 u.d.d3) := hp5.2.1 3
                clear hp5
                have HX5 := Lib.hid hx5
                have HW5 := Lib.hid hp
                clear hx5 hb5 hp
                simp [depsB, Region.binds, dF] at hF
                simp [stL, depsB, Region.binds, Act.put, hF]
              all_goals first
                | (go_wp2_with fail; exact ⟨rfl, Below.refl _ _⟩)
                | (go_wp2_with (go_at_call 70; (with_reducible refine (CRD.out _).mono ?_); rintro e6 w6 ⟨rfl, hb6⟩); first | exact ⟨rfl, hb6⟩ | rfl)
            intro vs w5 hp hF
            have e7 : vs 7 = .int .i64 rd := hF 7 (by decide) rfl
            have e8 : vs 8 = .pointer (some ⟨ga, ka, none⟩) := hF 8 (by decide) rfl
            show wpList Tryd.prog _ _ [_] _ _
            simp [stL, Act.put, e7, e8]
            clear hF e7 e8
            have hx5 := HX4.out.grow hp
            have hb5 := HB4.out.trans (hp.mono (by have := HB4.out.size; have := HBE.out; omega))
            have hi5 := HI4.out.keep hp
            have c2x : w5.cell? ⟨ga, ka, none⟩ = some (.int .i64 (s.regs.getD ka 0)) := own_getD hx5.regs (by rw [HSO.out.st.rl]; exact ka8)
            have c3x := hx5.regs.free ka
            have HX6 := Lib.hid (hx5.reg (k := ka) (y := rd) ⟨by omega, by omega⟩)
            have HB6 := Lib.hid (below_set (k := ka) (u := .int .i64 rd) hb5 hx5.regs.block.1)
            have HBI6 := Lib.hid (Box.past (b := ga) (k := ka) (u := .int .i64 rd) hi5 (by have := HNG.out; omega))
            clear hx5 hb5 hi5 hp
            generalize vs 0 = v0x6
            generalize vs 1 = v1x6
            generalize vs 2 = v2x6
            generalize vs 3 = v3x6
            generalize vs 4 = v4x6
            generalize vs 5 = v5x6
            generalize vs 6 = v6x6
            go_wp2_with fail
            go_roundw
            case rel => exact ⟨j + 1, { s with regs := s.regs.set ka rd, ov := true }, by omega, rfl, rfl, rfl, by go_num, by rw [HTK.out, sampF_snoc, HSF.out]; exact HE0, HX6, HB6⟩
            case measure => simp [intOf]; omega
          | false =>
            rw [Bool.false_or] at HE0
            go_upto_region 27 with (go_at_call 67; (with_reducible refine (CFT.out _).mono ?_); rintro e1 w8 ⟨rfl, hb8⟩)
            have HX8 := Lib.hid (HX4.out.grow hb8)
            have HB8x := Lib.hid (HB4.out.trans (hb8.mono (by have := HB4.out.size; have := HBE.out; omega)))
            have HI8 := Lib.hid (HI4.out.keep hb8)
            have HJ8 : Hid (Below w3.heap.size w3 w8) := by rw [HBE.out]; exact HB8x
            clear hb8 x0 x1 x2 x3 HX4 HB4 HI4 HJ4
            refine wp_region_grow8 (fun x => Nat.blt x 9) (fun _ => false) (fun w2 => Below w8.heap.size w8 w2) (fun a b => Below a.heap.size a b) (dF w8.heap.size [.v (.pointer (some ⟨gx, 0, none⟩)), .v (.slice (some ⟨ga, 0, none⟩) 8 c1), .v (.pointer (some ⟨gi, 1, none⟩)), .v (.int .i64 (ka : Int)), .v (.pointer (some ⟨gp, 0, none⟩)), .v (.agg #[.int .i64 u.d.d0, .int .i64 u.d.d1, .int .i64 u.d.d2, .int .i64 u.d.d3]), .v (.int .i64 V), .v (.int .i64 rd), .v (.pointer (some ⟨ga, ka, none⟩))]) (by kernel_rfl) (by kernel_rfl) (Below.drew (Below.refl _ _)) (fun a b h1 h2 => ⟨below_then h1 h2, fun i _ v => dF_keep h2 i v⟩) (fun w _ => Below.refl _ _) ?_ (fun j o _ _ h => by cases h) ?_
            · refine ⟨?_, ?_, ?_, ?_, ?_, ?_, ?_, ?_, ?_, trivial⟩
              all_goals
                intro vs w5 hp hF
                have hx5 := HX8.out.grow hp
                have hb5 := HI8.out.keep hp
                obtain ⟨y0, y1, y2, y3, y4⟩ := hx5.box.c5
                obtain ⟨z0, z1, z2, z3⟩ := hb5.c4
                have hp5 := (HP3.out.keep HJ8.out).keep hp
                have x0 : w5.cell? ⟨gp, 0, none⟩ = some (.int .i64 u.d.d0) := hp5.2.1 0
                have x1 : w5.cell? ⟨gp, 1, none⟩ = some (.int .i64 u.d.d1) := hp5.2.1 1
                have x2 : w5.cell? ⟨gp, 2, none⟩ = some (.int .i64 u.d.d2) := hp5.2.1 2
                have x3 : w5.cell? ⟨gp, 3, none⟩ = some (.int .i64 u.d.d3) := hp5.2.1 3
                clear hp5
                have HX5 := Lib.hid hx5
                have HW5 := Lib.hid hp
                clear hx5 hb5 hp
                simp [depsB, Region.binds, dF] at hF
                simp [stL, depsB, Region.binds, Act.put, hF]
              all_goals first
                | (go_wp2_with fail; exact ⟨rfl, Below.refl _ _⟩)
                | (go_wp2_with (go_at_call 70; (with_reducible refine (CRD.out _).mono ?_); rintro e6 w6 ⟨rfl, hb6⟩); first | exact ⟨rfl, hb6⟩ | rfl)
            intro vs w5 hp hF
            have e7 : vs 7 = .int .i64 rd := hF 7 (by decide) rfl
            have e8 : vs 8 = .pointer (some ⟨ga, ka, none⟩) := hF 8 (by decide) rfl
            show wpList Tryd.prog _ _ [_] _ _
            simp [stL, Act.put, e7, e8]
            clear hF e7 e8
            have hx5 := HX8.out.grow hp
            have hb5 := HB8x.out.trans (hp.mono (by have := HB8x.out.size; have := HBE.out; omega))
            have hi5 := HI8.out.keep hp
            have c2x : w5.cell? ⟨ga, ka, none⟩ = some (.int .i64 (s.regs.getD ka 0)) := own_getD hx5.regs (by rw [HSO.out.st.rl]; exact ka8)
            have c3x := hx5.regs.free ka
            have HX6 := Lib.hid (hx5.reg (k := ka) (y := rd) ⟨by omega, by omega⟩)
            have HB6 := Lib.hid (below_set (k := ka) (u := .int .i64 rd) hb5 hx5.regs.block.1)
            have HBI6 := Lib.hid (Box.past (b := ga) (k := ka) (u := .int .i64 rd) hi5 (by have := HNG.out; omega))
            clear hx5 hb5 hi5 hp
            generalize vs 0 = v0x6
            generalize vs 1 = v1x6
            generalize vs 2 = v2x6
            generalize vs 3 = v3x6
            generalize vs 4 = v4x6
            generalize vs 5 = v5x6
            generalize vs 6 = v6x6
            go_wp2_with fail
            go_roundw
            case rel => exact ⟨j + 1, { s with regs := s.regs.set ka rd, ov := !fb }, by omega, rfl, rfl, rfl, by go_num, by rw [HTK.out, sampF_snoc, HSF.out]; exact HE0, HX6, HB6⟩
            case measure => simp [intOf]; omega
      · as_aux_lemma =>
          obtain ⟨a0, a1⟩ := f1 (by simp)
          obtain ⟨ka, rfl⟩ := Int.eq_ofNat_of_zero_le a0
          have ka8 : ka < 8 := by omega
          have kap : (0 : Int) ≤ (ka : Int) := by omega
          have kaq : (ka : Int) < 8 := by omega
          obtain ⟨bb0, bb1⟩ := f5 (by simp)
          obtain ⟨kb, rfl⟩ := Int.eq_ofNat_of_zero_le bb0
          have kb8 : kb < 128 := by omega
          have kbp : (0 : Int) ≤ (kb : Int) := by omega
          have kbq : (kb : Int) < 128 := by omega
          obtain ⟨rv, hrv⟩ : ∃ v, s.mem.getD kb 0 = v := ⟨_, rfl⟩
          have rvb := fitD_bound (wordD_at HSO.out.st.mw (k := kb) (by rw [HSO.out.st.ml]; exact kb8))
          rw [hrv] at rvb
          have Hrv := Lib.hid hrv
          clear hrv
          have HE : Hid (stepM u.d y s ⟨6, (ka : Int), (kb : Int), imm⟩ = { s with regs := s.regs.set ka rv }) := Lib.hid (by show ({ s with regs := s.regs.set ka (s.mem.getD kb 0) } : Smp) = _; rw [Hrv.out])
          clear f1 f2 f3 f4 f5
          go_upto_region 29 with fail
          refine wp_region_grow8 (fun x => Nat.blt x 11) (fun _ => false) (fun w2 => Below W2.heap.size W2 w2) (fun a b => Below a.heap.size a b) (dF W2.heap.size [.v (.pointer (some ⟨gx, 0, none⟩)), .v (.slice (some ⟨ga, 0, none⟩) 8 c1), .v (.pointer (some ⟨gi, 1, none⟩)), .v (.int .i64 (ka : Int)), .v (.pointer (some ⟨gx, 1, none⟩)), .v (.slice (some ⟨ma, 0, none⟩) 128 c2), .v (.pointer (some ⟨gi, 2, none⟩)), .v (.int .i64 (kb : Int)), .v (.pointer (some ⟨ma, kb, none⟩)), .v (.int .i64 rv), .v (.pointer (some ⟨ga, ka, none⟩))]) (by kernel_rfl) (by kernel_rfl) (Below.drew (Below.refl _ _)) (fun a b h1 h2 => ⟨below_then h1 h2, fun i _ v => dF_keep h2 i v⟩) (fun w _ => Below.refl _ _) ?_ (fun j o _ _ h => by cases h) ?_
          · refine ⟨?_, ?_, ?_, ?_, ?_, ?_, ?_, ?_, ?_, ?_, ?_, trivial⟩
            all_goals
              intro vs w5 hp hF
              have hx5 := HX2.out.grow hp
              have hb5 := HBI.out.keep hp
              obtain ⟨y0, y1, y2, y3, y4⟩ := hx5.box.c5
              obtain ⟨z0, z1, z2, z3⟩ := hb5.c4
              have c1x : w5.cell? ⟨ma, kb, none⟩ = some (.int .i64 rv) := by rw [← Hrv.out]; exact own_getD hx5.mem (by rw [HSO.out.st.ml]; exact kb8)
              have HX5 := Lib.hid hx5
              have HW5 := Lib.hid hp
              clear hx5 hb5 hp
              simp [depsB, Region.binds, dF] at hF
              simp [stL, depsB, Region.binds, Act.put, hF]
            all_goals first
              | (go_wp2_with fail; exact ⟨rfl, Below.refl _ _⟩)
          intro vs w5 hp hF
          have e9 : vs 9 = .int .i64 rv := hF 9 (by decide) rfl
          have e10 : vs 10 = .pointer (some ⟨ga, ka, none⟩) := hF 10 (by decide) rfl
          show wpList Tryd.prog _ _ [_] _ _
          simp [stL, Act.put, e9, e10]
          clear hF e9 e10
          have hx5 := HX2.out.grow hp
          have hb5 := HB2.out.trans (hp.mono (by have := HB2.out.size; have := HBE.out; omega))
          have hi5 := HBI.out.keep hp
          have c2x : w5.cell? ⟨ga, ka, none⟩ = some (.int .i64 (s.regs.getD ka 0)) := own_getD hx5.regs (by rw [HSO.out.st.rl]; exact ka8)
          have c3x := hx5.regs.free ka
          have HX6 := Lib.hid (hx5.reg (k := ka) (y := rv) ⟨by omega, by omega⟩)
          have HB6 := Lib.hid (below_set (k := ka) (u := .int .i64 rv) hb5 hx5.regs.block.1)
          have HBI6 := Lib.hid (Box.past (b := ga) (k := ka) (u := .int .i64 rv) hi5 (by have := HNG.out; omega))
          clear hx5 hb5 hi5 hp
          generalize vs 0 = v0x6
          generalize vs 1 = v1x6
          generalize vs 2 = v2x6
          generalize vs 3 = v3x6
          generalize vs 4 = v4x6
          generalize vs 5 = v5x6
          generalize vs 6 = v6x6
          generalize vs 7 = v7x6
          generalize vs 8 = v8x6
          go_wp2_with fail
          go_roundw
          case rel => exact ⟨j + 1, { s with regs := s.regs.set ka rv }, by omega, rfl, rfl, rfl, by go_num, by rw [HTK.out, sampF_snoc, HSF.out]; exact HE, HX6, HB6⟩
          case measure => simp [intOf]; omega
      · as_aux_lemma =>
          obtain ⟨a0, a1⟩ := f1 (by simp)
          obtain ⟨ka, rfl⟩ := Int.eq_ofNat_of_zero_le a0
          have ka8 : ka < 8 := by omega
          have kap : (0 : Int) ≤ (ka : Int) := by omega
          have kaq : (ka : Int) < 8 := by omega
          obtain ⟨bb0, bb1⟩ := f5 (by simp)
          obtain ⟨kb, rfl⟩ := Int.eq_ofNat_of_zero_le bb0
          have kb8 : kb < 128 := by omega
          have kbp : (0 : Int) ≤ (kb : Int) := by omega
          have kbq : (kb : Int) < 128 := by omega
          obtain ⟨rv, hrv⟩ : ∃ v, s.regs.getD ka 0 = v := ⟨_, rfl⟩
          have rvb := fitD_bound (wordD_at HSO.out.st.rw (k := ka) (by rw [HSO.out.st.rl]; exact ka8))
          rw [hrv] at rvb
          have Hrv := Lib.hid hrv
          clear hrv
          have HE : Hid (stepM u.d y s ⟨7, (ka : Int), (kb : Int), imm⟩ = { s with mem := s.mem.set kb rv }) := Lib.hid (by show ({ s with mem := s.mem.set kb (s.regs.getD ka 0) } : Smp) = _; rw [Hrv.out])
          clear f1 f2 f3 f4 f5
          go_upto_region 31 with fail
          refine wp_region_grow8 (fun x => Nat.blt x 11) (fun _ => false) (fun w2 => Below W2.heap.size W2 w2) (fun a b => Below a.heap.size a b) (dF W2.heap.size [.v (.pointer (some ⟨gx, 1, none⟩)), .v (.slice (some ⟨ma, 0, none⟩) 128 c2), .v (.pointer (some ⟨gi, 2, none⟩)), .v (.int .i64 (kb : Int)), .v (.pointer (some ⟨gx, 0, none⟩)), .v (.slice (some ⟨ga, 0, none⟩) 8 c1), .v (.pointer (some ⟨gi, 1, none⟩)), .v (.int .i64 (ka : Int)), .v (.pointer (some ⟨ga, ka, none⟩)), .v (.int .i64 rv), .v (.pointer (some ⟨ma, kb, none⟩))]) (by kernel_rfl) (by kernel_rfl) (Below.drew (Below.refl _ _)) (fun a b h1 h2 => ⟨below_then h1 h2, fun i _ v => dF_keep h2 i v⟩) (fun w _ => Below.refl _ _) ?_ (fun j o _ _ h => by cases h) ?_
          · refine ⟨?_, ?_, ?_, ?_, ?_, ?_, ?_, ?_, ?_, ?_, ?_, trivial⟩
            all_goals
              intro vs w5 hp hF
              have hx5 := HX2.out.grow hp
              have hb5 := HBI.out.keep hp
              obtain ⟨y0, y1, y2, y3, y4⟩ := hx5.box.c5
              obtain ⟨z0, z1, z2, z3⟩ := hb5.c4
              have c1x : w5.cell? ⟨ga, ka, none⟩ = some (.int .i64 rv) := by rw [← Hrv.out]; exact own_getD hx5.regs (by rw [HSO.out.st.rl]; exact ka8)
              have HX5 := Lib.hid hx5
              have HW5 := Lib.hid hp
              clear hx5 hb5 hp
              simp [depsB, Region.binds, dF] at hF
              simp [stL, depsB, Region.binds, Act.put, hF]
            all_goals first
              | (go_wp2_with fail; exact ⟨rfl, Below.refl _ _⟩)
          intro vs w5 hp hF
          have e9 : vs 9 = .int .i64 rv := hF 9 (by decide) rfl
          have e10 : vs 10 = .pointer (some ⟨ma, kb, none⟩) := hF 10 (by decide) rfl
          show wpList Tryd.prog _ _ [_] _ _
          simp [stL, Act.put, e9, e10]
          clear hF e9 e10
          have hx5 := HX2.out.grow hp
          have hb5 := HB2.out.trans (hp.mono (by have := HB2.out.size; have := HBE.out; omega))
          have hi5 := HBI.out.keep hp
          have c2x : w5.cell? ⟨ma, kb, none⟩ = some (.int .i64 (s.mem.getD kb 0)) := own_getD hx5.mem (by rw [HSO.out.st.ml]; exact kb8)
          have c3x := hx5.mem.free kb
          have HX6 := Lib.hid (hx5.memw (k := kb) (y := rv) ⟨by omega, by omega⟩)
          have HB6 := Lib.hid (below_set (k := kb) (u := .int .i64 rv) hb5 hx5.mem.block.1)
          have HBI6 := Lib.hid (Box.past (b := ma) (k := kb) (u := .int .i64 rv) hi5 (by have := HNG.out; omega))
          clear hx5 hb5 hi5 hp
          generalize vs 0 = v0x6
          generalize vs 1 = v1x6
          generalize vs 2 = v2x6
          generalize vs 3 = v3x6
          generalize vs 4 = v4x6
          generalize vs 5 = v5x6
          generalize vs 6 = v6x6
          generalize vs 7 = v7x6
          generalize vs 8 = v8x6
          go_wp2_with fail
          go_roundw
          case rel => exact ⟨j + 1, { s with mem := s.mem.set kb rv }, by omega, rfl, rfl, rfl, by go_num, by rw [HTK.out, sampF_snoc, HSF.out]; exact HE, HX6, HB6⟩
          case measure => simp [intOf]; omega
      · as_aux_lemma =>
          obtain ⟨ra0, ra1, ra2⟩ := suit_ring HSU.out (.inr rfl)
          simp only at ra0 ra1 ra2
          obtain ⟨ka, rfl⟩ := Int.eq_ofNat_of_zero_le ra0
          have ka8 : ka < u.d.rg.length := by omega
          have khl : ka < s.heads.length := by rw [HSO.out.st.hl]; exact ka8
          have hhr := headsB_at HSO.out.st.hw khl
          have hne : s.heads ≠ [] := by intro e; rw [e] at khl; simp at khl
          obtain ⟨ha, hcx, hhe⟩ := own_some (HX2.out.heads hne) (by omega)
          injection hhe with e1 e2 e3
          subst e1
          rw [HX2.out.hl] at khl
          have HNE := Lib.hid hne
          have hcb : (ka : Int) < (hn : Int) := by omega
          have hka0 : (0 : Int) ≤ (ka : Int) := by omega
          clear e2 e3
          obtain ⟨rb0, rb1⟩ := f2 (by simp)
          obtain ⟨kb, rfl⟩ := Int.eq_ofNat_of_zero_le rb0
          have kb8 : kb < 8 := by omega
          have hrin := ringIn_iff.1 (valid_ring HV.out ka8)
          obtain ⟨⟨xb, xl⟩, hxr⟩ : ∃ x, u.d.rg[ka]? = some x := ⟨_, List.getElem?_eq_getElem ka8⟩
          have hgx : u.d.rg.getD ka (0, 0) = (xb, xl) := by rw [List.getD_eq_getElem?_getD, hxr]; rfl
          have hra : rgA u.d (ka : Int) = (xb, xl) := hgx
          rw [hgx] at hrin hhr
          simp only at hrin hhr
          obtain ⟨hd, hhd⟩ : ∃ v, s.heads.getD ka 0 = v := ⟨_, rfl⟩
          rw [hhd] at hhr
          obtain ⟨h2, hh2⟩ : ∃ v, (hd + xl - 1) % xl = v := ⟨_, rfl⟩
          have e1 := Int.emod_nonneg (hd + xl - 1) (show xl ≠ 0 by omega)
          have e2 := Int.emod_lt_of_pos (hd + xl - 1) (show 0 < xl by omega)
          rw [hh2] at e1 e2
          have htm : (hd + xl - 1).tmod xl = h2 := by rw [Int.tmod_eq_emod_of_nonneg (by omega)]; exact hh2
          obtain ⟨-, -, pl0, pl1⟩ := plc_in HV.out (hs := s.heads.set ka h2) (a := (ka : Int)) (b := 0) ra0 ra1
          obtain ⟨pn, hpn⟩ := Int.eq_ofNat_of_zero_le pl0
          rw [hpn] at pl1
          have pn8 : pn < 128 := by omega
          have hge : (s.heads.set ka h2).getD ka 0 = h2 := by rw [List.getD_eq_getElem?_getD, List.getElem?_set_self (by rw [HSO.out.st.hl]; exact ka8)]; rfl
          have HHR : Hid (0 ≤ (s.heads.set ka h2).getD ka 0 ∧ (s.heads.set ka h2).getD ka 0 < (u.d.rg.getD ka (0, 0)).2) := by rw [hge, hgx]; exact Lib.hid ⟨e1, e2⟩
          have HSL : Hid ((s.heads.set ka h2).length = hn) := by rw [List.length_set]; exact Lib.hid HX2.out.hl
          have HPN := Lib.hid hpn
          have HKA := Lib.hid ka8
          obtain ⟨ad, hA, hsp, hbl, hrr, -⟩ := ((HP.out.1.grow HB3.out).grow HBJ2.out) ka (xb, xl) hxr
          obtain ⟨-, r1⟩ := ring_cells hsp hrr
          simp only at r1
          have x8 : W2.cell? ⟨gp, 8, none⟩ = some (.slice u.RA rn u.rc) := ((HP3.out.keep HBJ2.out).2.1 8).trans (lst_eight HRN.out)
          rw [hA] at x8
          obtain ⟨rv, hrv⟩ : ∃ v, s.regs.getD kb 0 = v := ⟨_, rfl⟩
          have rvb := fitD_bound (wordD_at HSO.out.st.rw (k := kb) (by rw [HSO.out.st.rl]; exact kb8))
          rw [hrv] at rvb
          have Hrv := Lib.hid hrv
          clear hrv
          have HE : Hid (stepM u.d y s ⟨8, (ka : Int), (kb : Int), imm⟩ = { s with heads := s.heads.set ka h2, mem := s.mem.set pn rv }) := by
            show Hid (({ s with heads := s.heads.set ka ((s.heads.getD ka 0 + (rgA u.d (ka : Int)).2 - 1) % (rgA u.d (ka : Int)).2), mem := s.mem.set (plc u.d (s.heads.set ka ((s.heads.getD ka 0 + (rgA u.d (ka : Int)).2 - 1) % (rgA u.d (ka : Int)).2)) (ka : Int) 0).toNat (s.regs.getD kb 0) } : Smp) = _)
            rw [hra, hhd, Hrv.out]
            show Hid (({ s with heads := s.heads.set ka ((hd + xl - 1) % xl), mem := s.mem.set (plc u.d (s.heads.set ka ((hd + xl - 1) % xl)) (ka : Int) 0).toNat rv } : Smp) = _)
            rw [hh2, hpn]
            exact Lib.hid rfl
          have HHD := Lib.hid hhd
          have k4 : (ka : Int) < (rn : Int) := by have := HRN.out; omega
          have k0 : (0 : Int) ≤ (pn : Int) := by omega
          have k1 : (pn : Int) < 128 := by omega
          have k2 : (0 : Int) ≤ (kb : Int) := by omega
          have k3 : (kb : Int) < 8 := by omega
          have hx0 : ¬ xl = 0 := by omega
          have hx1 : (xl == 0) = false := by simpa using hx0
          obtain ⟨s1, hs1⟩ : ∃ v, hd + xl = v := ⟨_, rfl⟩
          obtain ⟨s2, hs2⟩ : ∃ v, s1 - 1 = v := ⟨_, rfl⟩
          have ws1 : IntKind.i64.wrap (hd + xl) = s1 := (IntWalk.i64_in _ (by omega)).trans hs1
          have ws2 : IntKind.i64.wrap (s1 - 1) = s2 := (IntWalk.i64_in _ (by omega)).trans hs2
          rw [hs1, hs2] at htm
          have hs2b : 0 ≤ s2 := by omega
          have hxlb : 0 < xl := by omega
          have HJJ := HBJ2
          obtain ⟨z0, z1, z2, z3⟩ := HBI.out.c4
          have HNH : Hid (ha < gi ∧ B ≤ ha) := by
            have q2 := (HX2.out.heads hne).block.1
            exact Lib.hid ⟨HNH0.out ha rfl hne, q2⟩
          clear hhd hhr hh2 hpn hge hgx hra hxr rb0 rb1 pl0 ra2 hs1 hs2 hA hsp hbl hrr f1 f2 f3 f4 f5
          go_upto_region 34 with fail
          clear x8 r1 z0 z1 z2 z3
          refine wp_region_grow8 (fun x => Nat.blt x 16) (fun _ => false) (fun w2 => Below W2.heap.size W2 w2) (fun a b => Below a.heap.size a b) (dF W2.heap.size [.v (.pointer (some ⟨gx, 2, none⟩)), .v (.slice (some ⟨ha, 0, none⟩) hn c3), .v (.pointer (some ⟨gi, 1, none⟩)), .v (.int .i64 (ka : Int)), .v (.pointer (some ⟨gx, 2, none⟩)), .v (.slice (some ⟨ha, 0, none⟩) hn c3), .v (.pointer (some ⟨gi, 1, none⟩)), .v (.int .i64 (ka : Int)), .v (.pointer (some ⟨ha, ka, none⟩)), .v (.int .i64 hd), .v (.int .i64 xl), .v (.int .i64 s1), .v (.int .i64 s2), .v (.int .i64 xl), .v (.int .i64 h2), .v (.pointer (some ⟨ha, ka, none⟩))]) (by kernel_rfl) (by kernel_rfl) (Below.drew (Below.refl _ _)) (fun a b h1 h2 => ⟨below_then h1 h2, fun i _ v => dF_keep h2 i v⟩) (fun w _ => Below.refl _ _) ?_ (fun j o _ _ h => by cases h) ?_
          · refine ⟨?_, ?_, ?_, ?_, ?_, ?_, ?_, ?_, ?_, ?_, ?_, ?_, ?_, ?_, ?_, ?_, trivial⟩
            all_goals
              intro vs w5 hp hF
              have hx5 := HX2.out.grow hp
              have hb5 := HBI.out.keep hp
              obtain ⟨y0, y1, y2, y3, y4⟩ := hx5.box.c5
              obtain ⟨z0, z1, z2, z3⟩ := hb5.c4
              have c1x : w5.cell? ⟨ha, ka, none⟩ = some (.int .i64 hd) := by rw [← HHD.out]; exact own_getD (hx5.heads HNE.out) (by rw [hx5.hl]; exact khl)
              have HX5 := Lib.hid hx5
              have HW5 := Lib.hid hp
              clear hx5 hb5 hp
              simp [depsB, Region.binds, dF] at hF
              simp [stL, depsB, Region.binds, Act.put, hF]
            all_goals first
              | (go_wp2_with fail; exact ⟨rfl, Below.refl _ _⟩)
              | (go_wp2_with fail; rfl)
          intro vs w5 hp hF
          have e14 : vs 14 = .int .i64 h2 := hF 14 (by decide) rfl
          have e15 : vs 15 = .pointer (some ⟨ha, ka, none⟩) := hF 15 (by decide) rfl
          show wpList Tryd.prog _ _ [_] _ _
          simp [stL, Act.put, e14, e15]
          clear hF e14 e15
          have hx5 := HX2.out.grow hp
          have hb5 := HB2.out.trans (hp.mono (by have := HB2.out.size; have := HBE.out; omega))
          have hi5 := HBI.out.keep hp
          have c1x : w5.cell? ⟨ha, ka, none⟩ = some (.int .i64 hd) := by rw [← HHD.out]; exact own_getD (hx5.heads HNE.out) (by rw [hx5.hl]; exact khl)
          have c3x := (hx5.heads HNE.out).free ka
          have HX6 := Lib.hid (hx5.head (k := ka) (y := h2) HNE.out ⟨by omega, by omega⟩)
          have HB6 := Lib.hid (below_set (k := ka) (u := .int .i64 h2) hb5 (hx5.heads HNE.out).block.1)
          have HBI6 := Lib.hid (Box.past (b := ha) (k := ka) (u := .int .i64 h2) hi5 (by have := HNH.out; omega))
          clear hx5 hb5 hi5 hp
          generalize vs 0 = v0x6
          generalize vs 1 = v1x6
          generalize vs 2 = v2x6
          generalize vs 3 = v3x6
          generalize vs 4 = v4x6
          generalize vs 5 = v5x6
          generalize vs 6 = v6x6
          generalize vs 7 = v7x6
          generalize vs 8 = v8x6
          generalize vs 9 = v9x6
          generalize vs 10 = v10x6
          generalize vs 11 = v11x6
          generalize vs 12 = v12x6
          generalize vs 13 = v13x6
          go_upto_region 35 with fail
          have HJJ : Hid (Below w3.heap.size w3 (w5.setCell ⟨ha, ka, none⟩ (.int .i64 h2))) := by rw [HBE.out]; exact HB6
          clear HBI HX2 HB2 c1x c3x
          generalize w5.setCell ⟨ha, ka, none⟩ (.int .i64 h2) = W7 at HX6 HB6 HBI6 HJJ ⊢
          have CP : Hid (∀ w1, Below W7.heap.size W7 w1 → Calls Tryd.prog 68 #[.agg u.lst.toArray, .agg #[.slice (some ⟨ga, 0, none⟩) 8 c1, .slice (some ⟨ma, 0, none⟩) 128 c2, .slice (some ⟨ha, 0, none⟩) hn c3, .int .i64 (cy0 + cyc), .int .i64 (st0 + stc)], .int .i64 (ka : Int), .int .i64 0] w1 fun e w' => e = .returned (.int .i64 (pn : Int)) ∧ Below w1.heap.size w1 w') := Lib.hid fun w1 hb => by
            rw [← HPN.out]
            exact r39_place u _ _ _ 8 c1 128 c2 hn c3 ka (s.heads.set ka h2) (cy0 + cyc) (st0 + stc) 0 w1 ((HP.out.1.grow HB3.out).grow (HJJ.out.trans (hb.mono (by have := HJJ.out.size; omega)))) HV.out (HX6.out.grow hb).ints HSL.out HKA.out khl HHR.out (by omega)
          refine wp_region_grow8 (fun x => Nat.blt x 14) (fun _ => false) (fun w2 => Below W7.heap.size W7 w2) (fun a b => Below a.heap.size a b) (dF W7.heap.size [.v (.pointer (some ⟨gx, 1, none⟩)), .v (.slice (some ⟨ma, 0, none⟩) 128 c2), .v (.agg u.lst.toArray), .v (.agg #[.slice (some ⟨ga, 0, none⟩) 8 c1, .slice (some ⟨ma, 0, none⟩) 128 c2, .slice (some ⟨ha, 0, none⟩) hn c3, .int .i64 (cy0 + cyc), .int .i64 (st0 + stc)]), .v (.pointer (some ⟨gi, 1, none⟩)), .v (.int .i64 (ka : Int)), .v (.int .i64 (pn : Int)), .v (.pointer (some ⟨gx, 0, none⟩)), .v (.slice (some ⟨ga, 0, none⟩) 8 c1), .v (.pointer (some ⟨gi, 2, none⟩)), .v (.int .i64 (kb : Int)), .v (.pointer (some ⟨ga, kb, none⟩)), .v (.int .i64 rv), .v (.pointer (some ⟨ma, pn, none⟩))]) (by kernel_rfl) (by kernel_rfl) (Below.drew (Below.refl _ _)) (fun a b h1 h2 => ⟨below_then h1 h2, fun i _ v => dF_keep h2 i v⟩) (fun w _ => Below.refl _ _) ?_ (fun j o _ _ h => by cases h) ?_
          · refine ⟨?_, ?_, ?_, ?_, ?_, ?_, ?_, ?_, ?_, ?_, ?_, ?_, ?_, ?_, trivial⟩
            all_goals
              intro vs w5 hp hF
              have hx5 := HX6.out.grow hp
              have hb5 := HBI6.out.keep hp
              obtain ⟨y0, y1, y2, y3, y4⟩ := hx5.box.c5
              obtain ⟨z0, z1, z2, z3⟩ := hb5.c4
              have c1x : w5.cell? ⟨ga, kb, none⟩ = some (.int .i64 rv) := by rw [← Hrv.out]; exact own_getD hx5.regs (by rw [HSO.out.st.rl]; exact kb8)
              have HP5 : Hid (Box w5 gp u.lst) := Lib.hid ((HP3.out.keep HJJ.out).keep hp)
              have HX5 := Lib.hid hx5
              have HW5 := Lib.hid hp
              clear hx5 hb5 hp
              simp [depsB, Region.binds, dF] at hF
              simp [stL, depsB, Region.binds, Act.put, hF]
            all_goals first
              | (go_wp2_with fail; exact ⟨rfl, Below.refl _ _⟩)
              | (refine ld_prg (HP5.out) (lst_ten u) rfl _ rfl rfl ?_; refine wpList_nil ?_; exact ⟨rfl, _, rfl, rfl, Below.refl _ _⟩)
              | (refine ld_macS HX5.out rfl _ rfl rfl ?_; refine wpList_nil ?_; exact ⟨rfl, _, rfl, rfl, Below.refl _ _⟩)
              | (go_wp2_with (go_at_call 68; (with_reducible refine (CP.out _ HW5.out).mono ?_); rintro e6 w6 ⟨rfl, hb6⟩); first | exact ⟨rfl, hb6⟩ | rfl)
          intro vs w5 hp hF
          have e12 : vs 12 = .int .i64 rv := hF 12 (by decide) rfl
          have e13 : vs 13 = .pointer (some ⟨ma, pn, none⟩) := hF 13 (by decide) rfl
          show wpList Tryd.prog _ _ [_] _ _
          simp [stL, Act.put, e12, e13]
          clear hF e12 e13
          have hx5 := HX6.out.grow hp
          have hb5 := HB6.out.trans (hp.mono (by have := HB6.out.size; have := HBE.out; omega))
          have hi5 := HBI6.out.keep hp
          have c2x : w5.cell? ⟨ma, pn, none⟩ = some (.int .i64 (s.mem.getD pn 0)) := own_getD hx5.mem (by rw [HSO.out.st.ml]; exact pn8)
          have c3x := hx5.mem.free pn
          have HX9 := Lib.hid (hx5.memw (k := pn) (y := rv) ⟨by omega, by omega⟩)
          have HB9 := Lib.hid (below_set (k := pn) (u := .int .i64 rv) hb5 hx5.mem.block.1)
          have HBI9 := Lib.hid (Box.past (b := ma) (k := pn) (u := .int .i64 rv) hi5 (by have := HNG.out; omega))
          clear hx5 hb5 hi5 hp
          generalize vs 0 = v0x9
          generalize vs 1 = v1x9
          generalize vs 2 = v2x9
          generalize vs 3 = v3x9
          generalize vs 4 = v4x9
          generalize vs 5 = v5x9
          generalize vs 6 = v6x9
          generalize vs 7 = v7x9
          generalize vs 8 = v8x9
          generalize vs 9 = v9x9
          generalize vs 10 = v10x9
          generalize vs 11 = v11x9
          go_wp2_with fail
          go_roundw
          case rel => exact ⟨j + 1, { s with heads := s.heads.set ka h2, mem := s.mem.set pn rv }, by omega, rfl, rfl, rfl, by go_num, by rw [HTK.out, sampF_snoc, HSF.out]; exact HE, HX9, HB9⟩
          case measure => simp [intOf]; omega
      · as_aux_lemma =>
          obtain ⟨a0, a1⟩ := f1 (by simp)
          obtain ⟨ka, rfl⟩ := Int.eq_ofNat_of_zero_le a0
          have ka8 : ka < 8 := by omega
          have kap : (0 : Int) ≤ (ka : Int) := by omega
          have kaq : (ka : Int) < 8 := by omega
          have hyb := fitD_bound HW.out
          have hx5 := HX2.out
          obtain ⟨y0, y1, y2, y3, y4⟩ := hx5.box.c5
          obtain ⟨z0, z1, z2, z3⟩ := HBI.out.c4
          have c2x : W2.cell? ⟨ga, ka, none⟩ = some (.int .i64 (s.regs.getD ka 0)) := own_getD hx5.regs (by rw [HSO.out.st.rl]; exact ka8)
          have c3x := hx5.regs.free ka
          have HX6 := Lib.hid (hx5.reg (k := ka) (y := y) ⟨by omega, by omega⟩)
          have HB6 := Lib.hid (below_set (k := ka) (u := .int .i64 y) HB2.out hx5.regs.block.1)
          clear hx5 f1 f2 f3 f4 f5
          go_wp2_with fail
          go_roundw
          case rel => exact ⟨j + 1, { s with regs := s.regs.set ka y }, by omega, rfl, rfl, rfl, by go_num, by rw [HTK.out, sampF_snoc, HSF.out]; exact Lib.hid rfl, HX6, HB6⟩
          case measure => simp [intOf]; omega
      · as_aux_lemma =>
          obtain ⟨a0, a1⟩ := f1 (by simp)
          obtain ⟨ka, rfl⟩ := Int.eq_ofNat_of_zero_le a0
          have ka8 : ka < 8 := by omega
          have kap : (0 : Int) ≤ (ka : Int) := by omega
          have kaq : (ka : Int) < 8 := by omega
          obtain ⟨rv, hrv⟩ : ∃ v, s.regs.getD ka 0 = v := ⟨_, rfl⟩
          have rvb := fitD_bound (wordD_at HSO.out.st.rw (k := ka) (by rw [HSO.out.st.rl]; exact ka8))
          rw [hrv] at rvb
          have Hrv := Lib.hid hrv
          clear hrv
          have hx5 := HX2.out
          obtain ⟨y0, y1, y2, y3, y4⟩ := hx5.box.c5
          obtain ⟨z0, z1, z2, z3⟩ := HBI.out.c4
          have c2x : W2.cell? ⟨ga, ka, none⟩ = some (.int .i64 rv) := by rw [← Hrv.out]; exact own_getD hx5.regs (by rw [HSO.out.st.rl]; exact ka8)
          have HE : Hid (stepM u.d y s ⟨10, (ka : Int), bb, imm⟩ = { s with out := rv }) := Lib.hid (by show ({ s with out := s.regs.getD ka 0 } : Smp) = _; rw [Hrv.out])
          clear hx5 f1 f2 f3 f4 f5
          go_wp2_with fail
          go_roundw
          case rel => exact ⟨j + 1, { s with out := rv }, by omega, rfl, rfl, rfl, by go_num, by rw [HTK.out, sampF_snoc, HSF.out]; exact HE, HX2, HB2⟩
          case measure => simp [intOf]; omega
      · as_aux_lemma =>
          obtain ⟨a0, a1⟩ := f1 (by simp)
          obtain ⟨ka, rfl⟩ := Int.eq_ofNat_of_zero_le a0
          have ka8 : ka < 8 := by omega
          have kap : (0 : Int) ≤ (ka : Int) := by omega
          have kaq : (ka : Int) < 8 := by omega
          obtain ⟨bb0, bb1⟩ := f2 (by simp)
          obtain ⟨kb, rfl⟩ := Int.eq_ofNat_of_zero_le bb0
          have kb8 : kb < 8 := by omega
          have kbp : (0 : Int) ≤ (kb : Int) := by omega
          have kbq : (kb : Int) < 8 := by omega
          obtain ⟨rv, hrv⟩ : ∃ v, s.regs.getD kb 0 = v := ⟨_, rfl⟩
          have rvb := fitD_bound (wordD_at HSO.out.st.rw (k := kb) (by rw [HSO.out.st.rl]; exact kb8))
          rw [hrv] at rvb
          have Hrv := Lib.hid hrv
          clear hrv
          have HE : Hid (stepM u.d y s ⟨11, (ka : Int), (kb : Int), imm⟩ = { s with regs := s.regs.set ka rv }) := Lib.hid (by show ({ s with regs := s.regs.set ka (s.regs.getD kb 0) } : Smp) = _; rw [Hrv.out])
          clear f1 f2 f3 f4 f5
          go_upto_region 41 with fail
          refine wp_region_grow8 (fun x => Nat.blt x 11) (fun _ => false) (fun w2 => Below W2.heap.size W2 w2) (fun a b => Below a.heap.size a b) (dF W2.heap.size [.v (.pointer (some ⟨gx, 0, none⟩)), .v (.slice (some ⟨ga, 0, none⟩) 8 c1), .v (.pointer (some ⟨gi, 1, none⟩)), .v (.int .i64 (ka : Int)), .v (.pointer (some ⟨gx, 0, none⟩)), .v (.slice (some ⟨ga, 0, none⟩) 8 c1), .v (.pointer (some ⟨gi, 2, none⟩)), .v (.int .i64 (kb : Int)), .v (.pointer (some ⟨ga, kb, none⟩)), .v (.int .i64 rv), .v (.pointer (some ⟨ga, ka, none⟩))]) (by kernel_rfl) (by kernel_rfl) (Below.drew (Below.refl _ _)) (fun a b h1 h2 => ⟨below_then h1 h2, fun i _ v => dF_keep h2 i v⟩) (fun w _ => Below.refl _ _) ?_ (fun j o _ _ h => by cases h) ?_
          · refine ⟨?_, ?_, ?_, ?_, ?_, ?_, ?_, ?_, ?_, ?_, ?_, trivial⟩
            all_goals
              intro vs w5 hp hF
              have hx5 := HX2.out.grow hp
              have hb5 := HBI.out.keep hp
              obtain ⟨y0, y1, y2, y3, y4⟩ := hx5.box.c5
              obtain ⟨z0, z1, z2, z3⟩ := hb5.c4
              have c1x : w5.cell? ⟨ga, kb, none⟩ = some (.int .i64 rv) := by rw [← Hrv.out]; exact own_getD hx5.regs (by rw [HSO.out.st.rl]; exact kb8)
              have HX5 := Lib.hid hx5
              have HW5 := Lib.hid hp
              clear hx5 hb5 hp
              simp [depsB, Region.binds, dF] at hF
              simp [stL, depsB, Region.binds, Act.put, hF]
            all_goals first
              | (go_wp2_with fail; exact ⟨rfl, Below.refl _ _⟩)
          intro vs w5 hp hF
          have e9 : vs 9 = .int .i64 rv := hF 9 (by decide) rfl
          have e10 : vs 10 = .pointer (some ⟨ga, ka, none⟩) := hF 10 (by decide) rfl
          show wpList Tryd.prog _ _ [_] _ _
          simp [stL, Act.put, e9, e10]
          clear hF e9 e10
          have hx5 := HX2.out.grow hp
          have hb5 := HB2.out.trans (hp.mono (by have := HB2.out.size; have := HBE.out; omega))
          have hi5 := HBI.out.keep hp
          have c2x : w5.cell? ⟨ga, ka, none⟩ = some (.int .i64 (s.regs.getD ka 0)) := own_getD hx5.regs (by rw [HSO.out.st.rl]; exact ka8)
          have c3x := hx5.regs.free ka
          have HX6 := Lib.hid (hx5.reg (k := ka) (y := rv) ⟨by omega, by omega⟩)
          have HB6 := Lib.hid (below_set (k := ka) (u := .int .i64 rv) hb5 hx5.regs.block.1)
          have HBI6 := Lib.hid (Box.past (b := ga) (k := ka) (u := .int .i64 rv) hi5 (by have := HNG.out; omega))
          clear hx5 hb5 hi5 hp
          generalize vs 0 = v0x6
          generalize vs 1 = v1x6
          generalize vs 2 = v2x6
          generalize vs 3 = v3x6
          generalize vs 4 = v4x6
          generalize vs 5 = v5x6
          generalize vs 6 = v6x6
          generalize vs 7 = v7x6
          generalize vs 8 = v8x6
          go_wp2_with fail
          go_roundw
          case rel => exact ⟨j + 1, { s with regs := s.regs.set ka rv }, by omega, rfl, rfl, rfl, by go_num, by rw [HTK.out, sampF_snoc, HSF.out]; exact HE, HX6, HB6⟩
          case measure => simp [intOf]; omega
    · obtain rfl : j = cn := by omega
      have et := List.take_of_length_le (l := u.d.code) (Nat.le_of_eq HCN.out)
      rw [et] at HSF
      have HRB : Hid (Box wr (gp + 1 + 1) zeros5) := Lib.hid (HR3.out.keep HBJ.out)
      have HGL := HGB
      obtain ⟨dsc, hd1, hd2⟩ := row_mac
      go_upto_region 42 with fail
      go_wp2_with (first
        | ((with_reducible show wpList _ _ _ (Oper.mk _ (.load 46 _) _ _ _ _ :: _) _ _); refine ld_mac HX.out.box rfl rfl _ rfl rfl ?_)
        | ((with_reducible show wpList _ _ _ (Oper.mk _ (.store 46 _ _) _ _ _ _ :: _) _ _); refine st_mac (L := [.slice (some ⟨ga, 0, none⟩) 8 c1, .slice (some ⟨ma, 0, none⟩) 128 c2, .slice A2 hn c3, .int .i64 (cy0 + cyc), .int .i64 (st0 + stc)]) HRB.out rfl rfl rfl rfl _ _ rfl rfl rfl ?_; intro w9 hb9 hg9))
      refine bodyPost_ret (resCTTT rfl _ _ w9 (g := gp + 1 + 1) (v := .agg [.slice (some ⟨ga, 0, none⟩) 8 c1, .slice (some ⟨ma, 0, none⟩) 128 c2, .slice A2 hn c3, .int .i64 (cy0 + cyc), .int .i64 (st0 + stc)].toArray) rfl (res_box _ hb9 dsc hd1 hd2 size_mac)) rfl ?_
      have hgB := HGB.out
      have hxb := HX.out
      have hgr := HX.out.hb
      have hne : (some (gp + 1 + 1) : Option Nat) ≠ some gx := by intro e; injection e with e; omega
      have o1 : Own B w9 (.slice (some ⟨ga, 0, none⟩) 8 c1) s.regs := ⟨own_setsI hxb.regs.1 hg9 (by omega), hxb.regs.2⟩
      have o2 : Own B w9 (.slice (some ⟨ma, 0, none⟩) 128 c2) s.mem := ⟨own_setsI hxb.mem.1 hg9 (by omega), hxb.mem.2⟩
      have hBw : w.heap.size ≤ B := by have := HGP.out; omega
      have o4 : s.heads ≠ [] → Own w.heap.size w9 (.slice A2 hn c3) s.heads := fun e => Own.base ⟨own_setsI (hxb.heads e).1 hg9 (by omega), (hxb.heads e).2⟩ hBw
      have o3 : Ints w9 A2 s.heads := by
        by_cases e : s.heads = []
        · rw [e]; exact Ints.nil
        · exact (o4 e).ints
      have hMc : (MM : Mac).cyc = cy0 ∧ MM.stl = st0 := by rw [← HMM.out]; exact ⟨rfl, rfl⟩
      have hz := macN_eq (d := u.d) (y := y) (m := MM) (s := s) HSF.out hMc.1 hMc.2 HCYC.out HSTC.out
      exact RetSmp.mk rfl o1.len.symm o2.len.symm hxb.hl o1.ints o2.ints o3 (own_ty (o1.base hBw)) (own_ty (o2.base hBw)) (fun n => own_ty (o4 n)) (grown_toI (below_then HB3.out HBJ.out) hg9 (by have := HGP.out; omega)) HSF.out hz
end Go.Proofs.YtgdccmmcjicgkaaDoor
