/- Several texts in one: W S A K Fx Fy Fz Sm Q O As La B. -/
import Derived.Test.YtpmbgcfnehplaaaDoorPq
import Derived.WalkKit
import Derived.BigQuiet
import Derived.BigGuardPart
import Derived.Deep.QuietTactic
import Derived.Lib.Hide
import Derived.Laws.OwnMore
import Derived.OwnWalk
import Derived.Test.YtpmbgcfnehplaaaDoorRows
import Derived.Laws.MakeOwn
import Derived.ProofKit
import Derived.Lib.SmallJoins
import Derived.Maps.AppendAt
import Derived.Deep.RegionHeld3
section
/- Words for memory: worlds that extend a world; regions that draw their order and whose calls make memory, walked once in the text's order. -/
set_option linter.unusedVariables false
set_option linter.unusedSimpArgs false
namespace Go.Proofs.YtpmbgcfnehplaaaDoor
open Go.RowKit

theorem below_drewN {B : Nat} {a w : World} (h : Below B a w) (n : Nat) : Below B a (w.drewN n) := ⟨h.os, h.tape, h.output, h.size, h.block⟩

/-- A world that holds all that w holds, as it was, and perhaps more. -/
structure Ext (w : World) where
  to : World
  below : Below w.heap.size w to
instance (w : World) : Nonempty (Ext w) := ⟨⟨w, Below.refl _ _⟩⟩
theorem Ext.cell {w : World} (n : Ext w) (p : Addr) (h : p.block < w.heap.size) : n.to.cell? p = w.cell? p := n.below.cell h
theorem Ext.frozen {w : World} (n : Ext w) (p : Addr) (h : p.block < w.heap.size) : n.to.frozen? p = w.frozen? p := n.below.frozen h

/-- A region that draws its order, whose operations read old memory only and whose calls leave all old memory as it is and yield one and the same value: one walk in the text's order. -/
theorem wp_region_ext {P : Program} {id : Nat} {Q : Exit → Act → World → Prop} {a : Act} {w : World} {l : List Oper} (hm : P.follows .mixedOrders = true) (hB : Region.lexB .any l.toArray = true)
    (h : wpQuiet P l.toArray (fun w' => ∃ n : Ext w, w' = n.to) (fun a' => ∀ w', (∃ n : Ext w, w' = n.to) → Q .normal a' w') l a) : (Code.region id l.toArray true).wp P Q a w :=
  wp_region_quiet (C := fun w' => ∃ n : Ext w, w' = n.to) hm hB ⟨⟨{ w with drawn := w.drawn + 1 }, ⟨rfl, rfl, rfl, Nat.le_refl _, fun _ _ => rfl⟩⟩, rfl⟩ (by simpa using h)

/-- A call within such a region. -/
theorem ext_call {P : Program} {f : FuncId} {args : Array Value} {w : World} {n : Ext w} {v : Value} {R : Ending → World → Prop} (h : Calls P f args n.to R)
    (hR : ∀ e w', R e w' → e = .returned v ∧ Below n.to.heap.size n.to w') : Calls P f args n.to fun e w'' => e = .returned v ∧ ∃ m : Ext w, w'' = m.to :=
  h.mono fun e w' hr => by
    obtain ⟨h1, h2⟩ := hR e w' hr
    exact ⟨h1, ⟨w', n.below.trans (h2.mono n.below.size)⟩, rfl⟩
theorem ext_below {P : Program} {f : FuncId} {args : Array Value} {w : World} {n : Ext w} {v : Value} (h : Calls P f args n.to fun e w' => e = .returned v ∧ Below n.to.heap.size n.to w') :
    Calls P f args n.to fun e w'' => e = .returned v ∧ ∃ m : Ext w, w'' = m.to := ext_call h fun _ _ h => h
theorem ext_same {P : Program} {f : FuncId} {args : Array Value} {w : World} {n : Ext w} {v : Value} (h : Calls P f args n.to fun e w' => e = .returned v ∧ n.to = w') :
    Calls P f args n.to fun e w'' => e = .returned v ∧ ∃ m : Ext w, w'' = m.to := ext_call h fun _ _ h => ⟨h.1, by rw [← h.2]; exact Below.refl _ _⟩
end Go.Proofs.YtpmbgcfnehplaaaDoor
end
section
/- Words for slices: a row of cells that reads as a list; slices of numbers; rows of the call's own. -/
set_option linter.unusedVariables false
set_option linter.unusedSimpArgs false
namespace Go.Proofs.YtpmbgcfnehplaaaDoor
open Go.RowKit

theorem block_add (a : Addr) (n : Nat) : (a.add n).block = a.block := by unfold Addr.add; split <;> rfl
theorem add_add (a : Addr) (i j : Nat) : (a.add i).add j = a.add (i + j) := by
  unfold Addr.add
  by_cases hi : i = 0 <;> by_cases hj : j = 0 <;> simp [hi, hj, Nat.add_assoc]

/-- The address A leads to the cells xs, one behind the other, below block B. -/
def Row (w : World) (B : Nat) (A : Option Addr) (xs : List Value) : Prop :=
  ∀ (k : Nat) (v : Value), xs[k]? = some v → ∃ ad, A = some ad ∧ ad.block < B ∧ w.cell? (ad.add k) = some v

section
variable {w w' : World} {B B' : Nat} {A : Option Addr} {xs : List Value}
theorem Row.nil : Row w B A [] := fun k v h => by simp at h
theorem Row.keep (h : Row w B A xs) (hb : Below B w w') : Row w' B A xs := fun k v hk => by
  obtain ⟨ad, e, h1, h2⟩ := h k v hk
  exact ⟨ad, e, h1, (hb.cell (by rw [block_add]; exact h1)).trans h2⟩
theorem Row.more (h : Row w B A xs) (hB : B ≤ B') : Row w B' A xs := fun k v hk => by
  obtain ⟨ad, e, h1, h2⟩ := h k v hk
  exact ⟨ad, e, by omega, h2⟩
theorem Row.grow (h : Row w w.heap.size A xs) (hb : Below w.heap.size w w') : Row w' w'.heap.size A xs := (h.keep hb).more hb.size
theorem Row.at_ {k : Nat} (h : Row w B A xs) (hk : k < xs.length) : ∃ ad v, A = some ad ∧ ad.block < B ∧ xs[k]? = some v ∧ w.cell? (ad.add k) = some v := by
  obtain ⟨ad, e, h1, h2⟩ := h k xs[k] (List.getElem?_eq_getElem hk)
  exact ⟨ad, xs[k], e, h1, List.getElem?_eq_getElem hk, h2⟩
theorem Row.of_own {base n c : Nat} {e : TypeId} (h : w.ownsRow base e 1 (.slice A n c) n xs) : Row w w.heap.size A xs := fun k v hk => by
  have h0 := h
  obtain ⟨hl, h2 | ⟨g, cap, cur, hv, hb, hh, hn, hm, hs, ht⟩⟩ := h
  · obtain ⟨_, rfl⟩ := h2
    have : xs = [] := List.eq_nil_of_length_eq_zero (by omega)
    subst this; simp at hk
  · injection hv with hA
    subst hA
    exact ⟨_, rfl, (h0.lt g rfl).2, h0.cells (g := g) rfl k v hk⟩
end

/-- What an owned row is: a slice of that length. -/
theorem own_form {w : World} {base n size : Nat} {e : TypeId} {v : Value} {xs : List Value} (h : w.ownsRow base e size v n xs) : ∃ A c, v = .slice A n c ∧ n ≤ c := by
  obtain ⟨_, ⟨rfl, rfl⟩ | ⟨g, cap, cur, rfl, _, _, hn, _⟩⟩ := h
  · exact ⟨none, 0, rfl, Nat.le_refl _⟩
  · exact ⟨_, cap, rfl, hn⟩

/-- A slice of numbers that reads as the list l. -/
def Ints (w : World) (A : Option Addr) (l : List Int) : Prop := Row w w.heap.size A (l.map (Value.int .i64)) ∧ ∀ x ∈ l, I64 x

section
variable {w w' : World} {A : Option Addr} {l : List Int}
theorem Ints.nil : Ints w A [] := ⟨Row.nil, by simp⟩
theorem Ints.grow (h : Ints w A l) (hb : Below w.heap.size w w') : Ints w' A l := ⟨h.1.grow hb, h.2⟩
theorem Ints.at_ {k : Nat} (h : Ints w A l) (hk : k < l.length) : ∃ ad x, A = some ad ∧ ad.block < w.heap.size ∧ l[k]? = some x ∧ w.cell? (ad.add k) = some (.int .i64 x) ∧ -9223372036854775808 ≤ x ∧ x ≤ 9223372036854775807 := by
  obtain ⟨ad, v, e, h1, h2, h3⟩ := h.1.at_ (k := k) (by simpa using hk)
  have hx : l[k]? = some l[k] := List.getElem?_eq_getElem hk
  rw [List.getElem?_map, hx] at h2
  simp only [Option.map_some, Option.some.injEq] at h2
  subst h2
  obtain ⟨i1, i2⟩ := h.2 l[k] (List.getElem_mem hk)
  exact ⟨ad, l[k], e, h1, hx, h3, i1, i2⟩
end

/-! ### Lists in loops -/
theorem take_succ_all {α : Type} {l : List α} {k : Nat} {x : α} (h : l[k]? = some x) (p : α → Bool) : (l.take (k + 1)).all p = ((l.take k).all p && p x) := by
  rw [List.take_add_one, h]; simp
theorem all_no {α : Type} {l : List α} {k : Nat} {x : α} (h : l[k]? = some x) {p : α → Bool} (hp : p x = false) : l.all p = false := by
  rw [List.all_eq_false]; exact ⟨x, List.mem_of_getElem? h, by simp [hp]⟩
theorem take_snoc' {α : Type} {l : List α} {k : Nat} {x : α} (h : l[k]? = some x) : l.take (k + 1) = l.take k ++ [x] := by
  rw [List.take_add_one, h]; simp
end Go.Proofs.YtpmbgcfnehplaaaDoor
end
section
/- Rows of the call's own: append of one element; slices of numbers that the call makes. -/
set_option linter.unusedVariables false
set_option linter.unusedSimpArgs false
namespace Go.Proofs.YtpmbgcfnehplaaaDoor
open Go.RowKit

/-- One element of one cell is appended to a row of the call's own. -/
theorem wpList_app1 {P : Program} {ops : Array Oper} {rest : List Oper} {o : Oper} {a : Act} {Q : Exit → Act → World → Prop} (W : World) (hgd : o.guard = none) (s x : Operand) (t : TypeId)
    (ho : o.op = .call { callee := .builtin .append, args := #[s, x], argTypes := #[t, t] })
    (base : Nat) (e : TypeId) (i : TypeInfo) (z : Value) (bytes : Nat) (ht : P.underlying t = some (.slice e)) (hi : P.info? e = some i) (hz : i.zero = some z)
    (hsize : i.size = 1) (hby : i.bytes = bytes) (hzs : z.cells.size = 1) (hbl : bytes ≤ 1000000)
    {v u : Value} {n : Nat} {xs : List Value} (hown : W.ownsRow base e 1 v n xs) (hs : a.eval s = v)
    (hx : a.eval x = .slice (some ⟨W.heap.size, 0, none⟩) 1 1) (h1 : u.oneCell' = true) (hn : n < 100000000) (hbase : base ≤ W.heap.size)
    (h : ∀ v' w', w'.ownsRow base e 1 v' (n + 1) (xs ++ [u]) → Below base W w' → wpList P ops Q rest (a.put o.dst v') w') :
    wpList P ops Q (o :: rest) a (W.alloc (.cells #[u] e)) := by
  refine wpList_append_own _ hgd s x t ho base e i z 1 bytes ht hi hz hsize hby hzs (by decide) v n xs hs (hown.alloc _) ⟨W.heap.size, 0, none⟩ 1 1 [u] hx rfl ?_ ?_ ?_ ?_ ?_ ?_
  · intro j q hj
    match j, hj with
    | 0, hj => simp at hj; subst hj; simp [Addr.add]
  · intro q hq; simp at hq; subst hq; exact h1
  · unfold maxLen; omega
  · have : (n + 1) * bytes ≤ 100000000 * 1000000 := Nat.mul_le_mul (by omega) hbl
    omega
  · simp; omega
  · intro v' w' ho' hg' _
    refine h v' w' ho' ?_
    have hb := (Below.refl base W).alloc hbase (.cells #[u] e)
    exact hb.grown hg' (by simp; omega) (fun k hk => (hown.lt k hk).1)

/-- The same within a region that draws its order. -/
theorem step_app1 {P : Program} {ops : Array Oper} {o : Oper} {a : Act} {K : Act → World → Prop} {Q : Exit → Act → World → Prop} {E : Prop} (W : World) (hgd : o.guard = none) (s x : Operand) (t : TypeId)
    (ho : o.op = .call { callee := .builtin .append, args := #[s, x], argTypes := #[t, t] })
    (base : Nat) (e : TypeId) (i : TypeInfo) (z : Value) (bytes : Nat) (ht : P.underlying t = some (.slice e)) (hi : P.info? e = some i) (hz : i.zero = some z)
    (hsize : i.size = 1) (hby : i.bytes = bytes) (hzs : z.cells.size = 1) (hbl : bytes ≤ 1000000)
    {v u : Value} {n : Nat} {xs : List Value} (hown : W.ownsRow base e 1 v n xs) (hs : a.eval s = v)
    (hx : a.eval x = .slice (some ⟨W.heap.size, 0, none⟩) 1 1) (h1 : u.oneCell' = true) (hn : n < 100000000) (hbase : base ≤ W.heap.size)
    (h : ∀ v' w', w'.ownsRow base e 1 v' (n + 1) (xs ++ [u]) → Below base W w' → K (a.put o.dst v') w') :
    if Region.wanted o (yielded ops a.tmps) = true then Oper.wp P o a (W.alloc (.cells #[u] e)) K Q else E := by
  have hw : Region.wanted o (yielded ops a.tmps) = true := by simp [Region.wanted, hgd]
  rw [if_pos hw]
  refine wp_append_own _ s x t ho base e i z 1 bytes ht hi hz hsize hby hzs (by decide) v n xs hs (hown.alloc _) ⟨W.heap.size, 0, none⟩ 1 1 [u] hx rfl ?_ ?_ ?_ ?_ ?_ ?_
  · intro j q hj
    match j, hj with
    | 0, hj => simp at hj; subst hj; simp [Addr.add]
  · intro q hq; simp at hq; subst hq; exact h1
  · unfold maxLen; omega
  · have : (n + 1) * bytes ≤ 100000000 * 1000000 := Nat.mul_le_mul (by omega) hbl
    omega
  · simp; omega
  · intro v' w' ho' hg' _
    refine h v' w' ho' ?_
    have hb := (Below.refl base W).alloc hbase (.cells #[u] e)
    exact hb.grown hg' (by simp; omega) (fun k hk => (hown.lt k hk).1)

/-- A row of the call's own stays its own while only new memory is made. -/
theorem own_grow {w w' : World} {base n size : Nat} {e : TypeId} {v : Value} {xs : List Value} (h : w.ownsRow base e size v n xs) (hb : Below w.heap.size w w') : w'.ownsRow base e size v n xs := by
  obtain ⟨h1, h2 | ⟨g, cap, cur, hv, hg, hh, r⟩⟩ := h
  · exact ⟨h1, .inl h2⟩
  · have hlt : g < w.heap.size := by
      rcases Nat.lt_or_ge g w.heap.size with h | h
      · exact h
      · rw [Array.getElem?_eq_none h] at hh; cases hh
    exact ⟨h1, .inr ⟨g, cap, cur, hv, hg, (hb.block g hlt).trans hh, r⟩⟩

theorem own_base {w : World} {base base' n size : Nat} {e : TypeId} {v : Value} {xs : List Value} (h : w.ownsRow base e size v n xs) (hb : base' ≤ base) : w.ownsRow base' e size v n xs := by
  obtain ⟨h1, h2 | ⟨g, cap, cur, hv, hg, r⟩⟩ := h
  · exact ⟨h1, .inl h2⟩
  · exact ⟨h1, .inr ⟨g, cap, cur, hv, by omega, r⟩⟩

theorem info_int : (Tryd.prog.info? 3).map (fun i => (i.zero, i.size, i.bytes)) = some (some (.int .i64 0), 1, 8) := by kernel_rfl

/-- v is a slice of numbers of the call's own that reads as the list l. -/
def Own (base : Nat) (w : World) (v : Value) (l : List Int) : Prop := w.ownsRow base 3 1 v l.length (l.map (Value.int .i64)) ∧ ∀ x ∈ l, I64 x
theorem Own.nil {base : Nat} {w : World} : Own base w (.slice none 0 0) [] := ⟨World.ownsRow_nil _ _ _ _, by simp⟩
theorem Own.form {base : Nat} {w : World} {v : Value} {l : List Int} (h : Own base w v l) : ∃ A c, v = .slice A l.length c ∧ l.length ≤ c ∧ Ints w A l := by
  obtain ⟨A, c, rfl, hc⟩ := own_form h.1
  exact ⟨A, c, rfl, hc, Row.of_own h.1, h.2⟩
theorem Own.grow {base : Nat} {w w' : World} {v : Value} {l : List Int} (h : Own base w v l) (hb : Below w.heap.size w w') : Own base w' v l := ⟨own_grow h.1 hb, h.2⟩
theorem Own.base {base base' : Nat} {w : World} {v : Value} {l : List Int} (h : Own base w v l) (hb : base' ≤ base) : Own base' w v l := ⟨own_base h.1 hb, h.2⟩
theorem step_app_int {ops : Array Oper} {o : Oper} {a : Act} {K : Act → World → Prop} {Q : Exit → Act → World → Prop} {E : Prop} (W : World) {W1 : World} (hgd : o.guard = none) (s x : Operand)
    (ho : o.op = .call { callee := .builtin .append, args := #[s, x], argTypes := #[22, 22] }) (base : Nat) {v : Value} {l : List Int} {y : Int} (hown : Own base W v l) (hW : W1 = W.alloc (.cells #[.int .i64 y] 3)) (hs : a.eval s = v)
    (hx : a.eval x = .slice (some ⟨W.heap.size, 0, none⟩) 1 1) (hn : l.length < 100000000) (hbase : base ≤ W.heap.size) (hy : I64 y)
    (h : ∀ v' w', Own base w' v' (l ++ [y]) → Below base W w' → K (a.put o.dst v') w') :
    if Region.wanted o (yielded ops a.tmps) = true then Oper.wp Tryd.prog o a W1 K Q else E := by
  subst hW
  obtain ⟨i0, hi, hz0, hz1, hz2⟩ := info_parts info_int
  refine step_app1 W hgd s x 22 ho base 3 i0 (.int .i64 0) 8 Tryd.underlying22 hi hz0 hz1 hz2 rfl (by decide) hown.1 hs hx rfl hn hbase fun v' w' h1 h2 => h v' w' ⟨?_, ?_⟩ h2
  · simpa using h1
  · intro q hq
    rcases List.mem_append.1 hq with hq | hq
    · exact hown.2 q hq
    · simp at hq; subst hq; exact hy
theorem app_int {ops : Array Oper} {rest : List Oper} {o : Oper} {a : Act} {Q : Exit → Act → World → Prop} (W : World) (hgd : o.guard = none) (s x : Operand)
    (ho : o.op = .call { callee := .builtin .append, args := #[s, x], argTypes := #[22, 22] }) (base : Nat) {v : Value} {l : List Int} {y : Int} (hown : Own base W v l) (hs : a.eval s = v)
    (hx : a.eval x = .slice (some ⟨W.heap.size, 0, none⟩) 1 1) (hn : l.length < 100000000) (hbase : base ≤ W.heap.size) (hy : I64 y)
    (h : ∀ v' w', Own base w' v' (l ++ [y]) → Below base W w' → wpList Tryd.prog ops Q rest (a.put o.dst v') w') :
    wpList Tryd.prog ops Q (o :: rest) a (W.alloc (.cells #[.int .i64 y] 3)) := by
  obtain ⟨i0, hi, hz0, hz1, hz2⟩ := info_parts info_int
  refine wpList_app1 W hgd s x 22 ho base 3 i0 (.int .i64 0) 8 Tryd.underlying22 hi hz0 hz1 hz2 rfl (by decide) hown.1 hs hx rfl hn hbase fun v' w' h1 h2 => h v' w' ⟨?_, ?_⟩ h2
  · simpa using h1
  · intro q hq
    rcases List.mem_append.1 hq with hq | hq
    · exact hown.2 q hq
    · simp at hq; subst hq; exact hy
/-- The box of a format that came by value, in all worlds that hold what was below. -/
theorem box4_S {w w' : World} {x0 x1 x2 x3 : Value} {t : TypeId} (h : Below (w.heap.size + 1) (w.alloc (.cells #[x0, x1, x2, x3] t)) w') :
    w'.cell? ⟨w.heap.size, 0, none⟩ = some x0 ∧ w'.cell? ⟨w.heap.size, 1, none⟩ = some x1 ∧ w'.cell? ⟨w.heap.size, 2, none⟩ = some x2 ∧ w'.cell? ⟨w.heap.size, 3, none⟩ = some x3 := by
  refine ⟨?_, ?_, ?_, ?_⟩ <;> exact (h.cell (Nat.lt_succ_self _)).trans (by simp [go_sem])
theorem below_box {w w' : World} {o : Obj} (h : Below (w.heap.size + 1) (w.alloc o) w') : Below w.heap.size w w' := ((Below.refl _ _).alloc (Nat.le_refl _) _).trans (h.mono (by omega))
end Go.Proofs.YtpmbgcfnehplaaaDoor
end
section
/- Slices of numbers that the call makes by make, and stores into them. -/
set_option linter.unusedVariables false
set_option linter.unusedSimpArgs false
namespace Go.Proofs.YtpmbgcfnehplaaaDoor
open Go.RowKit

theorem Own.cell {base : Nat} {w : World} {g n c : Nat} {l : List Int} (h : Own base w (.slice (some ⟨g, 0, none⟩) n c) l) {k : Nat} {y : Int} (hk : l[k]? = some y) : w.cell? ⟨g, k, none⟩ = some (.int .i64 y) := by
  obtain ⟨A, c', e, _⟩ := own_form h.1
  injection e with _ e2
  subst e2
  have hkl := (List.getElem?_eq_some_iff.1 hk).1
  rw [h.1.cellAt k (by omega), List.getElem?_map, hk]; rfl
theorem Own.free {base : Nat} {w : World} {g n c : Nat} {l : List Int} (h : Own base w (.slice (some ⟨g, 0, none⟩) n c) l) (k : Nat) : w.frozen? ⟨g, k, none⟩ = false := by
  obtain ⟨A, c', e, _⟩ := own_form h.1
  injection e with _ e2
  subst e2
  exact h.1.frozenAt k
theorem Own.block {base : Nat} {w : World} {g n c : Nat} {l : List Int} (h : Own base w (.slice (some ⟨g, 0, none⟩) n c) l) : base ≤ g ∧ g < w.heap.size := h.1.lt g rfl
theorem Own.set {base : Nat} {w : World} {g n c : Nat} {l : List Int} (h : Own base w (.slice (some ⟨g, 0, none⟩) n c) l) (k : Nat) {y : Int} (hy : I64 y) :
    Own base (w.setCell ⟨g, k, none⟩ (.int .i64 y)) (.slice (some ⟨g, 0, none⟩) n c) (l.set k y) := by
  obtain ⟨A, c', e, _⟩ := own_form h.1
  injection e with _ e2
  subst e2
  have := (h.1.stored k (.int .i64 y)).1
  refine ⟨by rw [List.length_set, List.map_set]; exact this, fun q hq => ?_⟩
  rcases List.mem_or_eq_of_mem_set hq with hq | hq
  · exact h.2 q hq
  · rw [hq]; exact hy
theorem below_set {base : Nat} {a w : World} {g k : Nat} {u : Value} (h : Below base a w) (hg : base ≤ g) : Below base a (w.setCell ⟨g, k, none⟩ u) := h.setCell hg u

theorem zeros_cells (n : Nat) : (madeCells (Value.int .i64 0).cells (n * 1)).toList = (List.replicate n (0 : Int)).map (Value.int .i64) := by
  apply List.ext_getElem?
  intro k
  simp only [madeCells, Value.cells, Array.toList_map, Array.toList_range, List.getElem?_map, List.getElem?_replicate, Nat.mul_one]
  rcases Nat.lt_or_ge k n with h | h
  · rw [List.getElem?_range h]; simp [h, Nat.mod_one]
  · rw [List.getElem?_eq_none (by simpa using h)]; simp; omega
/-- make([]int, n). -/
theorem mk_int {ops : Array Oper} {rest : List Oper} {o : Oper} {a : Act} {Q : Exit → Act → World → Prop} {w : World} (hg : o.guard = none) (s c : Operand) (hop : o.op = Op.makeSlice 22 s c)
    (base n : Nat) {N : Int} (hs : a.eval s = .int .i64 N) (hc : a.eval c = .int .i64 N) (hN : N = (n : Int)) (hn : n ≤ 100000000) (hb : base ≤ w.heap.size)
    (h : ∀ w', Own base w' (.slice (some ⟨w.heap.size, 0, none⟩) n n) (List.replicate n 0) → Below w.heap.size w w' → wpList Tryd.prog ops Q rest (a.put o.dst (.slice (some ⟨w.heap.size, 0, none⟩) n n)) w') :
    wpList Tryd.prog ops Q (o :: rest) a w := by
  subst hN
  obtain ⟨i0, hi, hz0, hz1, hz2⟩ := info_parts info_int
  refine wpList_make_full w hg s c 22 hop base 3 i0 (.int .i64 0) 1 Tryd.underlying22 hi hz0 hz1 .i64 .i64 n n n hs hc rfl rfl (by rw [hz2]; omega) (by unfold maxLen; omega) hb fun w' h1 h2 => h w' ⟨?_, ?_⟩ ?_
  · rw [List.length_replicate, ← zeros_cells]; exact h1
  · intro q hq; rw [List.eq_of_mem_replicate hq]; exact ⟨by decide, by decide⟩
  · exact (Below.refl _ _).grown h2 (Nat.le_refl _) (by intro k hk; cases hk)
theorem step_mk_int {ops : Array Oper} {o : Oper} {a : Act} {K : Act → World → Prop} {Q : Exit → Act → World → Prop} {E : Prop} {w : World} (hg : o.guard = none) (s c : Operand) (hop : o.op = Op.makeSlice 22 s c)
    (base n : Nat) {N : Int} (hs : a.eval s = .int .i64 N) (hc : a.eval c = .int .i64 N) (hN : N = (n : Int)) (hn : n ≤ 100000000) (hb : base ≤ w.heap.size)
    (h : ∀ w', Own base w' (.slice (some ⟨w.heap.size, 0, none⟩) n n) (List.replicate n 0) → Below w.heap.size w w' → K (a.put o.dst (.slice (some ⟨w.heap.size, 0, none⟩) n n)) w') :
    if Region.wanted o (yielded ops a.tmps) = true then Oper.wp Tryd.prog o a w K Q else E := by
  have hw : Region.wanted o (yielded ops a.tmps) = true := by simp [Region.wanted, hg]
  rw [if_pos hw]
  subst hN
  obtain ⟨i0, hi, hz0, hz1, hz2⟩ := info_parts info_int
  obtain ⟨w', hrun, r1, r2⟩ := run_make_full (P := Tryd.prog) w base 22 3 i0 (.int .i64 0) 1 Tryd.underlying22 hi hz0 hz1 .i64 .i64 n (by rw [hz2]; omega) (by unfold maxLen; omega) hb
  unfold Oper.wp
  simp [execOp, hop, hs, hc, hrun, Result.andThen]
  refine h w' ⟨?_, ?_⟩ ?_
  · rw [List.length_replicate, ← zeros_cells]; exact r1
  · intro q hq; rw [List.eq_of_mem_replicate hq]; exact ⟨by decide, by decide⟩
  · exact (Below.refl _ _).grown r2 (Nat.le_refl _) (by intro k hk; cases hk)
/-- A call hands back a slice of its own that reads as l, and the number E. -/
def RetInts (w : World) (l : List Int) (E : Int) (e : Ending) (w' : World) : Prop := ∃ v, e = .returned (.tuple #[v, .int .i64 E]) ∧ Own w.heap.size w' v l ∧ Below w.heap.size w w'
theorem RetInts.mk {w w' : World} {l : List Int} {E : Int} {v : Value} (ho : Own w.heap.size w' v l) (hb : Below w.heap.size w w') : RetInts w l E (.returned (.tuple #[v, .int .i64 E])) w' := ⟨v, rfl, ho, hb⟩
/-- A call hands back a slice of its own that reads as l. -/
def RetInts1 (w : World) (l : List Int) (e : Ending) (w' : World) : Prop := ∃ v, e = .returned v ∧ Own w.heap.size w' v l ∧ Below w.heap.size w w'
theorem RetInts1.mk {w w' : World} {l : List Int} {v : Value} (ho : Own w.heap.size w' v l) (hb : Below w.heap.size w w') : RetInts1 w l (.returned v) w' := ⟨v, rfl, ho, hb⟩
end Go.Proofs.YtpmbgcfnehplaaaDoor
end
section
/- The walks of package fixed and of its reference: what each function of numbers computes. -/
set_option linter.unusedVariables false
set_option linter.unusedSimpArgs false
namespace Go.Proofs.YtpmbgcfnehplaaaDoor
open Go.RowKit

abbrev wordV (b f r o : Int) : Value := .agg #[.int .i64 b, .int .i64 f, .int .i64 r, .int .i64 o]

theorem fx_mode (r : Int) (w : World) : Calls Tryd.prog 58 #[.int .i64 r] w fun e w' => e = .returned (.bool (inB r 1 3)) ∧ w = w' := by
  go_enter Tryd.func58, Tryd.ntmps58
  go_wp2
  all_goals go_ret
  all_goals exact ⟨ret_bool (by rw [Bool.eq_iff_iff]; simp [inB]; omega), rfl⟩
theorem rf_In (v lo hi : Int) (w : World) : Calls Tryd.prog 39 #[.int .i64 v, .int .i64 lo, .int .i64 hi] w fun e w' => e = .returned (.bool (inB v lo hi)) ∧ w = w' := by
  go_enter Tryd.func39, Tryd.ntmps39
  go_wp2
  all_goals go_ret
  all_goals exact ⟨ret_bool (by rw [Bool.eq_iff_iff]; simp [inB]; omega), rfl⟩
theorem fx_Valid (b f r o : Int) (w : World) : Calls Tryd.prog 46 #[wordV b f r o] w fun e w' => e = .returned (.bool (okW b f r o)) ∧ Below w.heap.size w w' := by
  go_enter Tryd.func46, Tryd.ntmps46
  go_wp2_with (go_at_call 58; refine (fx_mode _ _).mono ?_; rintro e w' ⟨rfl, rfl⟩)
  all_goals go_ret
  all_goals exact ⟨ret_bool (by rw [Bool.eq_iff_iff]; simp [inB, okW] at *; omega), (Below.refl _ _).alloc (Nat.le_refl _) _⟩
theorem rf_Valid (b f r o : Int) (w : World) : Calls Tryd.prog 45 #[wordV b f r o] w fun e w' => e = .returned (.bool (okW b f r o)) ∧ Below w.heap.size w w' := by
  go_enter Tryd.func45, Tryd.ntmps45
  go_wp2_with (go_at_call 39; refine (rf_In _ _ _ _).mono ?_; rintro e w' ⟨rfl, rfl⟩)
  all_goals go_ret
  all_goals exact ⟨ret_bool (by rw [Bool.eq_iff_iff]; simp [inB, okW, wrap64] at *; omega), (Below.refl _ _).alloc (Nat.le_refl _) _⟩
theorem fx_Valid_is {b f r o : Int} {c : Bool} (h : okW b f r o = c) (w : World) : Calls Tryd.prog 46 #[wordV b f r o] w fun e w' => e = .returned (.bool c) ∧ Below w.heap.size w w' := by
  subst h; exact fx_Valid _ _ _ _ _
theorem rf_Valid_is {b f r o : Int} {c : Bool} (h : okW b f r o = c) (w : World) : Calls Tryd.prog 45 #[wordV b f r o] w fun e w' => e = .returned (.bool c) ∧ Below w.heap.size w w' := by
  subst h; exact rf_Valid _ _ _ _ _
theorem fx_Low (b f r o : Int) (w : World) : Calls Tryd.prog 67 #[wordV b f r o] w fun e w' => e = .returned (.int .i64 (lowW b f r o)) ∧ Below w.heap.size w w' := by
  by_cases h : okW b f r o = true
  · obtain ⟨h1, h2, h3, h4, h5, h6, h7, h8⟩ := okW_iff.1 h
    go_enter Tryd.func67, Tryd.ntmps67
    go_wp2_with (go_at_call 46; refine (fx_Valid _ _ _ _ _).mono ?_; rintro e w' ⟨rfl, hb⟩; obtain ⟨hc, hf⟩ := bcell hb)
    go_ret
    exact ⟨ret_int (by rw [low_bits h]), ((Below.refl _ _).alloc (Nat.le_refl _) _).trans (hb.mono (by simp))⟩
  · have h0 : okW b f r o = false := by simpa using h
    go_enter Tryd.func67, Tryd.ntmps67
    go_wp2_with (go_at_call 46; refine (fx_Valid _ _ _ _ _).mono ?_; rintro e w' ⟨rfl, hb⟩; obtain ⟨hc, hf⟩ := bcell hb)
    go_ret
    exact ⟨ret_int (by simp [lowW, h]), ((Below.refl _ _).alloc (Nat.le_refl _) _).trans (hb.mono (by simp))⟩
theorem rf_Low (b f r o : Int) (w : World) : Calls Tryd.prog 31 #[wordV b f r o] w fun e w' => e = .returned (.int .i64 (lowW b f r o)) ∧ Below w.heap.size w w' := by
  by_cases h : okW b f r o = true
  · obtain ⟨h1, h2, h3, h4, h5, h6, h7, h8⟩ := okW_iff.1 h
    go_enter Tryd.func31, Tryd.ntmps31
    go_wp2_with (go_at_call 45; refine (rf_Valid _ _ _ _ _).mono ?_; rintro e w' ⟨rfl, hb⟩; obtain ⟨hc, hf⟩ := bcell hb)
    go_ret
    exact ⟨ret_int (by rw [low_bits h]), ((Below.refl _ _).alloc (Nat.le_refl _) _).trans (hb.mono (by simp))⟩
  · have h0 : okW b f r o = false := by simpa using h
    go_enter Tryd.func31, Tryd.ntmps31
    go_wp2_with (go_at_call 45; refine (rf_Valid _ _ _ _ _).mono ?_; rintro e w' ⟨rfl, hb⟩; obtain ⟨hc, hf⟩ := bcell hb)
    go_ret
    exact ⟨ret_int (by simp [lowW, h]), ((Below.refl _ _).alloc (Nat.le_refl _) _).trans (hb.mono (by simp))⟩
theorem fx_High (b f r o : Int) (w : World) : Calls Tryd.prog 68 #[wordV b f r o] w fun e w' => e = .returned (.int .i64 (highW b f r o)) ∧ Below w.heap.size w w' := by
  by_cases h : okW b f r o = true
  · obtain ⟨h1, h2, h3, h4, h5, h6, h7, h8⟩ := okW_iff.1 h
    go_enter Tryd.func68, Tryd.ntmps68
    go_wp2_with (go_at_call 46; refine (fx_Valid _ _ _ _ _).mono ?_; rintro e w' ⟨rfl, hb⟩; obtain ⟨hc, hf⟩ := bcell hb)
    go_ret
    exact ⟨ret_int (by rw [high_bits h]), ((Below.refl _ _).alloc (Nat.le_refl _) _).trans (hb.mono (by simp))⟩
  · have h0 : okW b f r o = false := by simpa using h
    go_enter Tryd.func68, Tryd.ntmps68
    go_wp2_with (go_at_call 46; refine (fx_Valid _ _ _ _ _).mono ?_; rintro e w' ⟨rfl, hb⟩; obtain ⟨hc, hf⟩ := bcell hb)
    go_ret
    exact ⟨ret_int (by simp [highW, h]), ((Below.refl _ _).alloc (Nat.le_refl _) _).trans (hb.mono (by simp))⟩
theorem rf_High (b f r o : Int) (w : World) : Calls Tryd.prog 32 #[wordV b f r o] w fun e w' => e = .returned (.int .i64 (highW b f r o)) ∧ Below w.heap.size w w' := by
  by_cases h : okW b f r o = true
  · obtain ⟨h1, h2, h3, h4, h5, h6, h7, h8⟩ := okW_iff.1 h
    go_enter Tryd.func32, Tryd.ntmps32
    go_wp2_with (go_at_call 45; refine (rf_Valid _ _ _ _ _).mono ?_; rintro e w' ⟨rfl, hb⟩; obtain ⟨hc, hf⟩ := bcell hb)
    go_ret
    exact ⟨ret_int (by rw [high_bits h]), ((Below.refl _ _).alloc (Nat.le_refl _) _).trans (hb.mono (by simp))⟩
  · have h0 : okW b f r o = false := by simpa using h
    go_enter Tryd.func32, Tryd.ntmps32
    go_wp2_with (go_at_call 45; refine (rf_Valid _ _ _ _ _).mono ?_; rintro e w' ⟨rfl, hb⟩; obtain ⟨hc, hf⟩ := bcell hb)
    go_ret
    exact ⟨ret_int (by simp [highW, h]), ((Below.refl _ _).alloc (Nat.le_refl _) _).trans (hb.mono (by simp))⟩
end Go.Proofs.YtpmbgcfnehplaaaDoor
end
section
/- The walks of Shift, of package fixed and of its reference. -/
set_option linter.unusedVariables false
set_option linter.unusedSimpArgs false
namespace Go.Proofs.YtpmbgcfnehplaaaDoor
open Go.RowKit

end Go.Proofs.YtpmbgcfnehplaaaDoor
end
section
/- The walks of Fits, Saturate, Reduce, of package fixed and of its reference. -/
set_option linter.unusedVariables false
set_option linter.unusedSimpArgs false
namespace Go.Proofs.YtpmbgcfnehplaaaDoor
open Go.RowKit

theorem rf_Fits (b f r o v : Int) (w : World) : Calls Tryd.prog 63 #[wordV b f r o, .int .i64 v] w fun e w' => e = .returned (.bool (fitsW b f r o v)) ∧ Below w.heap.size w w' := by
  have hx := @Ext.cell
  rcases Bool.eq_false_or_eq_true (okW b f r o) with h | h
  all_goals
    go_enter Tryd.func63, Tryd.ntmps63
    go_wp2
    refine wp_region_ext (by kernel_rfl) (by kernel_rfl) ?_
    repeat (go_big_quiet_step (first
      | (go_at_call 45; exact ext_below (rf_Valid_is h _))
      | (go_at_call 31; exact ext_below (rf_Low _ _ _ _ _))
      | (go_at_call 32; exact ext_below (rf_High _ _ _ _ _))
      | (go_at_call 39; exact ext_same (rf_In _ _ _ _))))
    refine wpQuiet_nil ?_
    rintro _ ⟨⟨w1, hb1⟩, rfl⟩
    go_wp2
    go_ret
    exact ⟨ret_bool (by simp [fitsW, h]), ((Below.refl _ _).alloc (Nat.le_refl _) _).trans (hb1.mono (by simp))⟩
theorem fx_Fits (b f r o v : Int) (w : World) : Calls Tryd.prog 59 #[wordV b f r o, .int .i64 v] w fun e w' => e = .returned (.bool (fitsW b f r o v)) ∧ Below w.heap.size w w' := by
  rcases Bool.eq_false_or_eq_true (okW b f r o) with h | h
  · go_enter Tryd.func59, Tryd.ntmps59
    go_wp2_with (first
      | (go_at_call 46; refine (fx_Valid_is h _).mono ?_; rintro e w1 ⟨rfl, hb1⟩; obtain ⟨hc1, hf1⟩ := bcell hb1)
      | (go_at_call 67; refine (fx_Low _ _ _ _ _).mono ?_; rintro e w2 ⟨rfl, hb2'⟩; have hb2 := below_then hb1 hb2'; clear hb2'; obtain ⟨hc2, hf2⟩ := bcell hb2)
      | (go_at_call 68; refine (fx_High _ _ _ _ _).mono ?_; rintro e w3 ⟨rfl, hb3'⟩; have hb3 := below_then hb2 hb3'; clear hb3'))
    all_goals go_ret
    · exact ⟨ret_bool (by simp [fitsW, h, inB]; omega), ((Below.refl _ _).alloc (Nat.le_refl _) _).trans (hb3.mono (by simp))⟩
    · exact ⟨ret_bool (by simp [fitsW, h, inB]; omega), ((Below.refl _ _).alloc (Nat.le_refl _) _).trans (hb2.mono (by simp))⟩
  · go_enter Tryd.func59, Tryd.ntmps59
    go_wp2_with (first
      | (go_at_call 46; refine (fx_Valid_is h _).mono ?_; rintro e w1 ⟨rfl, hb1⟩))
    all_goals go_ret
    all_goals exact ⟨ret_bool (by simp [fitsW, h]), ((Below.refl _ _).alloc (Nat.le_refl _) _).trans (hb1.mono (by simp))⟩
end Go.Proofs.YtpmbgcfnehplaaaDoor
end
section
/- The walks of the reference's functions over lists of numbers. -/
set_option linter.unusedVariables false
set_option linter.unusedSimpArgs false
namespace Go.Proofs.YtpmbgcfnehplaaaDoor
open Go.RowKit

/-- All elements are from -2^bits to 2^bits. -/
def smallB (l : List Int) (bits : Nat) : Bool := l.all fun x => inB x (-2 ^ bits) (2 ^ bits)
/-- All elements are words of a format. -/
def wordsB (b f r o : Int) (l : List Int) : Bool := l.all fun x => fitsW b f r o x

/-- The element with the number i, or 0. -/
def atF (l : List Int) (i : Int) : Int := if 0 ≤ i then l[i.toNat]?.getD 0 else 0
theorem atF_nat {l : List Int} {k : Nat} {x : Int} (h : l[k]? = some x) : atF l (k : Int) = x := by
  unfold atF; rw [if_pos (by omega), Int.toNat_natCast, h]; rfl
theorem atF_no {l : List Int} {i : Int} (h : i < 0 ∨ (l.length : Int) ≤ i) : atF l i = 0 := by
  unfold atF
  split
  · rw [List.getElem?_eq_none (by omega)]; rfl
  · rfl
theorem wd_At (A : Option Addr) (l : List Int) (c : Nat) (i : Int) (w : World) (h : Ints w A l) :
    Calls Tryd.prog 14 #[.slice A l.length c, .int .i64 i] w fun e w' => e = .returned (.int .i64 (atF l i)) ∧ w = w' := by
  by_cases h1 : 0 ≤ i ∧ i < l.length
  · obtain ⟨k, rfl⟩ := Int.eq_ofNat_of_zero_le h1.1
    have h2 : k < l.length := by omega
    obtain ⟨ad, x, rfl, hb, hx, hc, i1, i2⟩ := h.at_ h2
    have HX := Lib.hid (atF_nat hx)
    clear hx h h1
    go_enter Tryd.func14, Tryd.ntmps14
    go_wp2
    go_ret
    exact ⟨ret_int HX.out.symm, rfl⟩
  · have HX := Lib.hid (atF_no (l := l) (i := i) (by omega))
    have h2 : 0 ≤ i → (l.length : Int) ≤ i := by omega
    clear h1
    go_enter Tryd.func14, Tryd.ntmps14
    go_wp2
    all_goals go_ret
    all_goals exact ⟨ret_int HX.out.symm, rfl⟩
end Go.Proofs.YtpmbgcfnehplaaaDoor
end
section
/- Slices of slices of numbers. -/
set_option linter.unusedVariables false
set_option linter.unusedSimpArgs false
namespace Go.Proofs.YtpmbgcfnehplaaaDoor
open Go.RowKit

/-- A slice of slices of numbers that reads as the list of lists. -/
def IntsL (w : World) (A : Option Addr) (ll : List (List Int)) : Prop :=
  ∀ k l, ll[k]? = some l → ∃ ad B c, A = some ad ∧ ad.block < w.heap.size ∧ w.cell? (ad.add k) = some (.slice B l.length c) ∧ Ints w B l
theorem IntsL.nil {w : World} {A : Option Addr} : IntsL w A [] := fun k l h => by simp at h
theorem IntsL.grow {w w' : World} {A : Option Addr} {ll : List (List Int)} (h : IntsL w A ll) (hb : Below w.heap.size w w') : IntsL w' A ll := fun k l hk => by
  obtain ⟨ad, B, c, e, h1, h2, h3⟩ := h k l hk
  exact ⟨ad, B, c, e, Nat.lt_of_lt_of_le h1 hb.size, (hb.cell (by rw [block_add]; exact h1)).trans h2, h3.grow hb⟩
theorem IntsL.at_ {w : World} {A : Option Addr} {ll : List (List Int)} (h : IntsL w A ll) {k : Nat} (hk : k < ll.length) :
    ∃ ad l B c, A = some ad ∧ ad.block < w.heap.size ∧ ll[k]? = some l ∧ w.cell? (ad.add k) = some (.slice B l.length c) ∧ Ints w B l := by
  obtain ⟨ad, B, c, e, h1, h2, h3⟩ := h k ll[k] (List.getElem?_eq_getElem hk)
  exact ⟨ad, ll[k], B, c, e, h1, List.getElem?_eq_getElem hk, h2, h3⟩

/-- A store into a block that is not of the row leaves the row. -/
theorem own_store {w : World} {base n size g k : Nat} {e : TypeId} {v u : Value} {xs : List Value} (h : w.ownsRow base e size v n xs) (hg : g < base) : (w.setCell ⟨g, k, none⟩ u).ownsRow base e size v n xs := by
  obtain ⟨h1, h2 | ⟨q, cap, cur, hv, hq, hh, r⟩⟩ := h
  · exact ⟨h1, .inl h2⟩
  · exact ⟨h1, .inr ⟨q, cap, cur, hv, hq, (Below.heap_setCell w _ u q (by show q ≠ g; omega)).trans hh, r⟩⟩

theorem info_ints : (Tryd.prog.info? 22).map (fun i => (i.zero, i.size, i.bytes)) = some (some (.slice none 0 0), 1, 24) := by kernel_rfl
theorem Own.store {w : World} {base g k : Nat} {v u : Value} {l : List Int} (h : Own base w v l) (hg : g < base) : Own base (w.setCell ⟨g, k, none⟩ u) v l := ⟨own_store h.1 hg, h.2⟩

/-- The slice at block g, made by the call, whose elements are slices of the call's own, made later. -/
def OwnL (base : Nat) (w : World) (g m : Nat) (ll : List (List Int)) : Prop :=
  ∃ vs : List Value, w.ownsRow base 22 1 (.slice (some ⟨g, 0, none⟩) m m) m vs ∧ vs.length = ll.length ∧ ll.length = m ∧ base ≤ g ∧ ∀ (k : Nat) v l, vs[k]? = some v → ll[k]? = some l → Own (g + 1) w v l
theorem OwnL.grow {base : Nat} {w w' : World} {g m : Nat} {ll : List (List Int)} (h : OwnL base w g m ll) (hb : Below w.heap.size w w') : OwnL base w' g m ll := by
  obtain ⟨vs, h1, h2, h3, h4, h5⟩ := h
  exact ⟨vs, own_grow h1 hb, h2, h3, h4, fun k v l hv hl => (h5 k v l hv hl).grow hb⟩
theorem OwnL.block {base : Nat} {w : World} {g m : Nat} {ll : List (List Int)} (h : OwnL base w g m ll) : base ≤ g ∧ g < w.heap.size := by
  obtain ⟨vs, h1, _⟩ := h
  exact h1.lt g rfl
theorem OwnL.cell {base : Nat} {w : World} {g m : Nat} {ll : List (List Int)} (h : OwnL base w g m ll) {k : Nat} {l : List Int} (hk : ll[k]? = some l) :
    ∃ B c, w.cell? ⟨g, k, none⟩ = some (.slice B l.length c) ∧ Own (g + 1) w (.slice B l.length c) l := by
  obtain ⟨vs, h1, h2, h3, h4, h5⟩ := h
  have hkl := (List.getElem?_eq_some_iff.1 hk).1
  have hv : vs[k]? = some vs[k] := List.getElem?_eq_getElem (by omega)
  have ho := h5 k _ l hv hk
  obtain ⟨B, c, e, hc, hi⟩ := ho.form
  refine ⟨B, c, ?_, by rw [← e]; exact ho⟩
  rw [h1.cellAt k (by omega), hv, e]
theorem OwnL.free {base : Nat} {w : World} {g m : Nat} {ll : List (List Int)} (h : OwnL base w g m ll) (k : Nat) : w.frozen? ⟨g, k, none⟩ = false := by
  obtain ⟨vs, h1, _⟩ := h
  exact h1.frozenAt k
theorem OwnL.ints {base : Nat} {w : World} {g m : Nat} {ll : List (List Int)} (h : OwnL base w g m ll) : IntsL w (some ⟨g, 0, none⟩) ll := fun k l hk => by
  have hg := h.block
  obtain ⟨B, c, h1, h2⟩ := h.cell hk
  obtain ⟨B', c', e, hc, hi⟩ := h2.form
  injection e with e1 e2 e3
  subst e1
  refine ⟨⟨g, 0, none⟩, B, c, rfl, hg.2, ?_, hi⟩
  have : (⟨g, 0, none⟩ : Addr).add k = ⟨g, k, none⟩ := by
    unfold Addr.add
    by_cases h0 : k = 0 <;> simp [h0]
  rw [this]; exact h1
theorem OwnL.set {base : Nat} {w : World} {g m : Nat} {ll : List (List Int)} (h : OwnL base w g m ll) (k : Nat) {v : Value} {l : List Int} (hv : Own (g + 1) w v l) : OwnL base (w.setCell ⟨g, k, none⟩ v) g m (ll.set k l) := by
  obtain ⟨vs, h1, h2, h3, h4, h5⟩ := h
  refine ⟨vs.set k v, (h1.stored k v).1, by simp [h2], by simp [h3], h4, fun j u q hu hq => ?_⟩
  rw [List.getElem?_set] at hu hq
  by_cases e : k = j
  · rw [if_pos e] at hu hq
    split at hu
    · split at hq
      · injection hu with hu; injection hq with hq; subst hu; subst hq; exact hv.store (by omega)
      · cases hq
    · cases hu
  · rw [if_neg e] at hu hq
    exact (h5 j u q hu hq).store (by omega)
/-- make([][]int, n). -/
theorem mk_intL {ops : Array Oper} {rest : List Oper} {o : Oper} {a : Act} {Q : Exit → Act → World → Prop} {w : World} (hg : o.guard = none) (s c : Operand) (hop : o.op = Op.makeSlice 65 s c)
    (n : Nat) {N : Int} (hs : a.eval s = .int .i64 N) (hc : a.eval c = .int .i64 N) (hN : N = (n : Int)) (hn : n ≤ 100000000)
    (h : ∀ w', OwnL w.heap.size w' w.heap.size n (List.replicate n []) → Below w.heap.size w w' → wpList Tryd.prog ops Q rest (a.put o.dst (.slice (some ⟨w.heap.size, 0, none⟩) n n)) w') :
    wpList Tryd.prog ops Q (o :: rest) a w := by
  subst hN
  obtain ⟨i0, hi, hz0, hz1, hz2⟩ := info_parts info_ints
  refine wpList_make_full w hg s c 65 hop w.heap.size 22 i0 (.slice none 0 0) 1 Tryd.underlying65 hi hz0 hz1 .i64 .i64 n n n hs hc rfl rfl (by rw [hz2]; omega) (by unfold maxLen; omega) (Nat.le_refl _) fun w' h1 h2 => h w' ⟨_, h1, ?_, by simp, Nat.le_refl _, ?_⟩ ?_
  · simp [size_madeCells]
  · intro k v l hv hl
    rw [List.getElem?_replicate] at hl
    split at hl
    · injection hl with hl
      subst hl
      have : v = .slice none 0 0 := by
        have hc1 : (Value.slice none 0 0).cells = #[.slice none 0 0] := rfl
        rw [hc1, toList_madeCells_one] at hv
        exact List.eq_of_mem_replicate (List.mem_of_getElem? hv)
      subst this
      exact Own.nil
    · cases hl
  · exact (Below.refl _ _).grown h2 (Nat.le_refl _) (by intro k hk; cases hk)
/-- A call hands back a slice of slices that reads as ll, and the number E. -/
def RetIntsL (w : World) (ll : List (List Int)) (E : Int) (e : Ending) (w' : World) : Prop := ∃ A c, e = .returned (.tuple #[.slice A ll.length c, .int .i64 E]) ∧ IntsL w' A ll ∧ Below w.heap.size w w'
theorem RetIntsL.mk {w w' : World} {ll : List (List Int)} {E : Int} {A : Option Addr} {n c : Nat} (hn : n = ll.length) (ho : IntsL w' A ll) (hb : Below w.heap.size w w') : RetIntsL w ll E (.returned (.tuple #[.slice A n c, .int .i64 E])) w' := by
  subst hn; exact ⟨A, c, rfl, ho, hb⟩
end Go.Proofs.YtpmbgcfnehplaaaDoor
end
section
/- How arguments are opened: a format by value. -/
set_option linter.unusedVariables false
set_option linter.unusedSimpArgs false
set_option maxRecDepth 100000
namespace Go.Proofs.YtpmbgcfnehplaaaDoor
open Go.Joins Go.ChangeShapes Go.WideShapes Go.RowKit

theorem open_Word {H : Type} {enc : TypeId × Value → H} {w : World} {base : Nat} {spare : Nat → Bool} {held : Bool} {r : Reach} {b0 : Nat} {v : Value} {d : DataW H} {p : List MemPlace}
    (hv : Value.okWide Tryd.prog w r b0 26 v) (h : DataW.Trod enc Tryd.prog w base spare held 26 v d p) :
    ∃ u : Int × Int × Int × Int, v = wordV u.1 u.2.1 u.2.2.1 u.2.2.2 ∧ (I64 u.1 ∧ I64 u.2.1 ∧ I64 u.2.2.1 ∧ I64 u.2.2.2) := by
  obtain ⟨c0, c1, c2, c3, y0, y1, y2, y3, m, rfl, rfl, rfl, h0, h1, h2, h3⟩ := open_agg4 Tryd.underlying26 (by kernel_rfl) (by kernel_rfl) hv h
  obtain ⟨x0, e0, _, w0⟩ := DataW.trod_int Tryd.underlying3 h0
  obtain ⟨x1, e1, _, w1⟩ := DataW.trod_int Tryd.underlying3 h1
  obtain ⟨x2, e2, _, w2⟩ := DataW.trod_int Tryd.underlying3 h2
  obtain ⟨x3, e3, _, w3⟩ := DataW.trod_int Tryd.underlying3 h3
  simp at e0 e1 e2 e3
  subst e0 e1 e2 e3
  exact ⟨⟨x0, x1, x2, x3⟩, rfl, i64_of_wf w0, i64_of_wf w1, i64_of_wf w2, i64_of_wf w3⟩
theorem cell_lt {w : World} {a : Addr} {v : Value} (h : w.cell? a = some v) : a.block < w.heap.size := by
  rcases Nat.lt_or_ge a.block w.heap.size with hl | hl
  · exact hl
  · unfold World.cell? at h; rw [Array.getElem?_eq_none hl] at h; cases h

theorem open_Ints {H : Type} {enc : TypeId × Value → H} {w : World} {base : Nat} {spare : Nat → Bool} {held : Bool} {r : Reach} {b0 : Nat} {v : Value} {d : DataW H} {p : List MemPlace}
    (hv : Value.okWide Tryd.prog w r b0 22 v) (h : DataW.Trod enc Tryd.prog w base spare held 22 v d p) :
    ∃ u : Option Addr × Nat × List Int, v = .slice u.1 u.2.2.length u.2.1 ∧ (Ints w u.1 u.2.2 ∧ u.2.2.length ≤ 9223372036854775807) := by
  obtain ⟨A, len, cap, rfl⟩ := okWide_slice Tryd.underlying22 hv
  obtain ⟨fuel, hf⟩ := h
  rcases open_ints Tryd.underlying22 Tryd.underlying3 (by kernel_rfl) hf with ⟨hcs, _⟩ | ⟨x, l, c, zs, hcs, _, hl, hm, hz, _, hcell, hwz⟩
  · simp [Value.cells] at hcs
    obtain ⟨rfl, rfl, rfl⟩ := hcs
    exact ⟨⟨none, 0, []⟩, rfl, Ints.nil, by simp⟩
  · simp [Value.cells] at hcs
    obtain ⟨rfl, rfl, rfl⟩ := hcs
    have hlz : len ≤ zs.length := by rw [hz]; split <;> omega
    have hlen : (zs.take len).length = len := by simp; omega
    refine ⟨⟨some x, cap, zs.take len⟩, by rw [hlen], ⟨fun k v hk => ?_, fun y hy => i64_of_wf (hwz y (List.mem_of_mem_take hy))⟩, by rw [hlen]; unfold maxLen at hm; omega⟩
    rw [List.getElem?_map] at hk
    cases hx : (zs.take len)[k]? with
    | none => rw [hx] at hk; cases hk
    | some q =>
      rw [hx] at hk
      simp only [Option.map_some, Option.some.injEq] at hk
      subst hk
      have hkl : k < len := by
        have := (List.getElem?_eq_some_iff.1 hx).1
        omega
      rw [List.getElem?_take_of_lt hkl] at hx
      have hc := hcell k (by omega)
      rw [List.getD_eq_getElem?_getD, hx] at hc
      have hb := cell_lt hc
      rw [block_add] at hb
      exact ⟨x, rfl, hb, hc⟩
theorem open_IntsC {H : Type} {enc : TypeId × Value → H} {w : World} {base : Nat} {spare : Nat → Bool} {held : Bool} {r : Reach} {b0 : Nat} {v : Value} {d : DataW H} {p : List MemPlace}
    (hv : Value.okWide Tryd.prog w r b0 22 v) (h : DataW.Trod enc Tryd.prog w base spare held 22 v d p) :
    ∃ u : Option Addr × Nat × List Int, v = .slice u.1 u.2.2.length u.2.1 ∧ (Ints w u.1 u.2.2 ∧ u.2.2.length ≤ 9223372036854775807 ∧ u.2.2.length ≤ u.2.1) := by
  obtain ⟨A, len, cap, rfl⟩ := okWide_slice Tryd.underlying22 hv
  obtain ⟨fuel, hf⟩ := h
  rcases open_ints Tryd.underlying22 Tryd.underlying3 (by kernel_rfl) hf with ⟨hcs, _⟩ | ⟨x, l, c, zs, hcs, _, hl, hm, hz, _, hcell, hwz⟩
  · simp [Value.cells] at hcs
    obtain ⟨rfl, rfl, rfl⟩ := hcs
    exact ⟨⟨none, 0, []⟩, rfl, Ints.nil, by simp, by simp⟩
  · simp [Value.cells] at hcs
    obtain ⟨rfl, rfl, rfl⟩ := hcs
    have hlz : len ≤ zs.length := by rw [hz]; split <;> omega
    have hlen : (zs.take len).length = len := by simp; omega
    refine ⟨⟨some x, cap, zs.take len⟩, by rw [hlen], ⟨fun k v hk => ?_, fun y hy => i64_of_wf (hwz y (List.mem_of_mem_take hy))⟩, by rw [hlen]; unfold maxLen at hm; omega, by rw [hlen]; exact hl⟩
    rw [List.getElem?_map] at hk
    cases hx : (zs.take len)[k]? with
    | none => rw [hx] at hk; cases hk
    | some q =>
      rw [hx] at hk
      simp only [Option.map_some, Option.some.injEq] at hk
      subst hk
      have hkl : k < len := by
        have := (List.getElem?_eq_some_iff.1 hx).1
        omega
      rw [List.getElem?_take_of_lt hkl] at hx
      have hc := hcell k (by omega)
      rw [List.getD_eq_getElem?_getD, hx] at hc
      have hb := cell_lt hc
      rw [block_add] at hb
      exact ⟨x, rfl, hb, hc⟩
end Go.Proofs.YtpmbgcfnehplaaaDoor
end
section
/- append(v, s...): a slice of numbers of the call's own takes all elements of another slice. -/
set_option linter.unusedVariables false
set_option linter.unusedSimpArgs false
namespace Go.Proofs.YtpmbgcfnehplaaaDoor
open Go.RowKit

set_option maxRecDepth 100000 in
theorem run_app_ints (w : World) (base : Nat) (ty : TypeId) (v : Value) (l m : List Int) (A : Option Addr) (c : Nat) (hown : Own base w v l) (hI : Ints w A m) (hn : l.length + m.length ≤ 100000000) (hbase : base ≤ w.heap.size) :
    ∃ v' w', (Builtin.append_ #[22, 22] ty #[v, .slice A m.length c]).run Tryd.prog w = .ok v' w' ∧ Own base w' v' (l ++ m) ∧ w.grownBy w' v.ownBlock ∧ (v'.ownBlock = v.ownBlock ∨ v'.ownBlock = some w.heap.size) := by
  obtain ⟨i0, hi, hz0, hz1, hz2⟩ := info_parts info_int
  have h64 : ∀ x ∈ l ++ m, I64 x := fun x hx => by
    rcases List.mem_append.1 hx with hx | hx
    · exact hown.2 x hx
    · exact hI.2 x hx
  cases A with
  | none =>
    have hm : m = [] := by
      cases m with
      | nil => rfl
      | cons y t => obtain ⟨ad, _, e, _⟩ := hI.at_ (k := 0) (by simp); cases e
    subst hm
    refine ⟨v, w, ?_, by simpa using hown, ⟨rfl, rfl, rfl, Nat.le_refl _, fun _ _ _ => rfl⟩, .inl rfl⟩
    rcases hown.1.2 with ⟨rfl, _⟩ | ⟨g, cap, cur, rfl, _, _, hnc, _⟩
    · simp [Builtin.append_, run_underlying Tryd.underlying22, sizeOf, typeInfo, hi, Builtin.lenOf, Builtin.firstCells]
    · simp [Builtin.append_, run_underlying Tryd.underlying22, sizeOf, typeInfo, hi, Builtin.lenOf, Builtin.firstCells, hnc, storeCells]
  | some ad =>
    have hnews : ∀ j u, (m.map (Value.int .i64))[j]? = some u → w.cell? (ad.add j) = some u := fun j u hu => by
      obtain ⟨ad', e, _, h⟩ := hI.1 j u hu
      injection e with e
      rw [e]; exact h
    obtain ⟨v', w', h1, h2, h3, _, h5⟩ := run_append_own_at (P := Tryd.prog) w base 22 ty 3 i0 (.int .i64 0) 1 8 Tryd.underlying22 hi hz0 hz1 hz2 rfl (by decide) v l.length _ hown.1 ad m.length c (m.map (Value.int .i64)) (by simp) hnews
      (fun u hu => by obtain ⟨x, _, rfl⟩ := List.mem_map.1 hu; rfl) (by unfold maxLen; omega) (by omega) hbase
    refine ⟨v', w', h1, ⟨?_, h64⟩, h3, h5⟩
    rw [List.map_append, List.length_append]
    exact h2
/-- append(v, s...) in a plain region. -/
theorem app_ints {ops : Array Oper} {rest : List Oper} {o : Oper} {a : Act} {Q : Exit → Act → World → Prop} (w : World) (hg : o.guard = none) (s x : Operand) (ho : o.op = .call { callee := .builtin .append, args := #[s, x], argTypes := #[22, 22] })
    (base : Nat) {v : Value} {l m : List Int} {A : Option Addr} {c : Nat} (hs : a.eval s = v) (hx : a.eval x = .slice A m.length c) (hown : Own base w v l) (hI : Ints w A m) (hn : l.length + m.length ≤ 100000000) (hbase : base ≤ w.heap.size)
    (h : ∀ v' w', Own base w' v' (l ++ m) → w.grownBy w' v.ownBlock → (v'.ownBlock = v.ownBlock ∨ v'.ownBlock = some w.heap.size) → wpList Tryd.prog ops Q rest (a.put o.dst v') w') : wpList Tryd.prog ops Q (o :: rest) a w := by
  refine wpList_plain hg fun K hK => ?_
  obtain ⟨v', w', hrun, h1, h2, h3⟩ := run_app_ints w base o.type v l m A c hown hI hn hbase
  unfold Oper.wp execOp
  simp only [ho, resolve, invoke, builtin, Sem.run_bind, Sem.run_pure, Result.andThen_ok, List.map_toArray, List.map_cons, List.map_nil, hs, hx, hrun]
  exact hK _ _ (h v' w' h1 h2 h3)
end Go.Proofs.YtpmbgcfnehplaaaDoor
end
section
/- The walks of the statements about layer 21 that take numbers alone, and of what they call of package world. -/
set_option linter.unusedVariables false
set_option linter.unusedSimpArgs false
namespace Go.Proofs.YtpmbgcfnehplaaaDoor
open Go.RowKit

theorem wd_Within (v m : Int) (w : World) (hm : m ≤ 9223372036854775807) : Calls Tryd.prog 13 #[.int .i64 v, .int .i64 m] w fun e w' => e = .returned (.int .i64 (withinF v m)) ∧ w = w' := by
  by_cases h : 1 ≤ m
  · obtain ⟨T, e1, a1, f1, f2⟩ := within_facts h v
    have F1 := Lib.hid f1
    have F2 := Lib.hid f2
    clear f1 f2
    go_enter Tryd.func13, Tryd.ntmps13
    go_wp2
    all_goals go_ret
    · exact ⟨ret_int (F1.out (by omega)).symm, rfl⟩
    · exact ⟨ret_int (F2.out (by omega)).symm, rfl⟩
  · have E : Hid (withinF v m = 0) := by unfold withinF; rw [if_pos (by omega)]; exact rfl
    go_enter Tryd.func13, Tryd.ntmps13
    go_wp2
    go_ret
    exact ⟨ret_int E.out.symm, rfl⟩
end Go.Proofs.YtpmbgcfnehplaaaDoor
end
section
/- The walks of package world: numbers, words, formats. -/
set_option linter.unusedVariables false
set_option linter.unusedSimpArgs false
namespace Go.Proofs.YtpmbgcfnehplaaaDoor
open Go.RowKit

/-- count numbers with absolute values of at most bound, made of a list. -/
def belowF (bound : Int) (l : List Int) (count : Nat) : List Int := (List.range count).map fun (i : Nat) => withinF (wrap64 (atF l i + bound)) (2 * bound + 1) - bound
theorem belowF_succ (bound : Int) (l : List Int) (k : Nat) : belowF bound l (k + 1) = belowF bound l k ++ [withinF (wrap64 (atF l k + bound)) (2 * bound + 1) - bound] := by
  simp [belowF, List.range_succ]
theorem belowF_length (bound : Int) (l : List Int) (k : Nat) : (belowF bound l k).length = k := by simp [belowF]
theorem atF_i64 {l : List Int} (h : ∀ x ∈ l, I64 x) (i : Int) : I64 (atF l i) := by
  unfold atF
  split
  · cases hx : l[i.toNat]? with
    | none => exact ⟨by decide, by decide⟩
    | some x => exact h x (List.mem_of_getElem? hx)
  · exact ⟨by decide, by decide⟩

/-- count words of a format, made of a list. -/
def wordF (b f r o : Int) (x : Int) : Int := lowW b f r o + withinF (wrap64 (x - lowW b f r o)) (highW b f r o - lowW b f r o + 1)
def wordsF (b f r o : Int) (l : List Int) (count : Nat) : List Int := (List.range count).map fun (i : Nat) => wordF b f r o (atF l i)
theorem wordsF_succ (b f r o : Int) (l : List Int) (k : Nat) : wordsF b f r o l (k + 1) = wordsF b f r o l k ++ [wordF b f r o (atF l k)] := by
  simp [wordsF, List.range_succ]
theorem wordsF_length (b f r o : Int) (l : List Int) (k : Nat) : (wordsF b f r o l k).length = k := by simp [wordsF]

theorem wd_Words (b f r o : Int) (A : Option Addr) (l : List Int) (c : Nat) (n : Nat) (w : World) (hn : n ≤ 1000000) (h : Ints w A l) :
    Calls Tryd.prog 15 #[wordV b f r o, .slice A l.length c, .int .i64 n] w fun e w' => ∃ v, e = .returned v ∧ Own w.heap.size w' v (wordsF b f r o l n) ∧ Below w.heap.size w w' := by
  go_enter Tryd.func15, Tryd.ntmps15
  go_wp2
  go_loopw [7, 8] (fun v i wr => ∃ k : Nat, k ≤ n ∧ i = .int .i64 k ∧ Own (w.heap.size + 1) wr v (wordsF b f r o l k) ∧ Below (w.heap.size + 1) (w.alloc (.cells #[.int .i64 b, .int .i64 f, .int .i64 r, .int .i64 o] 26)) wr) (fun _ i _ => n - (intOf i).toNat)
  case atStart => exact ⟨0, Nat.zero_le _, rfl, Own.nil, Below.refl _ _⟩
  case round =>
    obtain ⟨k, hk, rfl, hown, hbw⟩ := hrel
    by_cases hlt : k < n
    · have HS := Lib.hid (wordsF_succ b f r o l k)
      have hlen' : (wordsF b f r o l k).length < 100000000 := by rw [wordsF_length]; omega
      obtain ⟨L, hL⟩ : ∃ L, lowW b f r o = L := ⟨_, rfl⟩
      obtain ⟨H, hH⟩ : ∃ H, highW b f r o = H := ⟨_, rfl⟩
      obtain ⟨q1, q2, q3, q4⟩ := low_high b f r o
      rw [hL] at q1 q2
      rw [hH] at q3 q4
      obtain ⟨g1, g2⟩ := within_in (m := H - L + 1) (by omega) (wrap64 (atF l k - L))
      obtain ⟨y, hy⟩ : ∃ y, withinF (wrap64 (atF l k - L)) (H - L + 1) = y := ⟨_, rfl⟩
      have HY : Hid (wordF b f r o (atF l k) = L + y) := by unfold wordF; rw [hL, hH, hy]; exact rfl
      rw [hy] at g1 g2
      have hI : I64 (L + y) := ⟨by omega, by omega⟩
      have hsz : w.heap.size + 1 ≤ wr.drew.heap.size := by have := hbw.size; simp at this; show _ ≤ wr.heap.size; omega
      have hbw2 := hbw.drew
      have hown2 : Own (w.heap.size + 1) wr.drew _ _ := hown
      have hm : H - L + 1 ≤ 9223372036854775807 := by omega
      obtain ⟨X, hX⟩ : ∃ X, IntKind.i64.wrap (atF l k - L) = X := ⟨_, rfl⟩
      have hy2 : withinF X (H - L + 1) = y := by rw [← hX, IntKind.wrap_i64]; unfold wrap64 at hy; exact hy
      have e1 : IntKind.i64.wrap (H - L) = H - L := IntWalk.i64_in _ (by omega)
      have e2 : IntKind.i64.wrap (H - L + 1) = H - L + 1 := IntWalk.i64_in _ (by omega)
      have e3 : IntKind.i64.wrap (L + y) = L + y := IntWalk.i64_in _ (by omega)
      clear hown hbw hy
      go_wp2_with fail
      go_region_held3 (fun w' => (w'.cell? ⟨w.heap.size, 0, none⟩ = some (.int .i64 b) ∧ w'.cell? ⟨w.heap.size, 1, none⟩ = some (.int .i64 f) ∧ w'.cell? ⟨w.heap.size, 2, none⟩ = some (.int .i64 r) ∧ w'.cell? ⟨w.heap.size, 3, none⟩ = some (.int .i64 o)))
        (first | exact box4_S (by assumption) | exact box4_S (hbw2.alloc hsz _))
        (first
          | (go_at_call 31; refine (rf_Low _ _ _ _ _).mono ?_; rintro e w1 ⟨rfl, hb1⟩; have hown2 := hown2.grow hb1; have hbw2 := hbw2.trans (hb1.mono hsz); have hsz := Nat.le_trans hsz hb1.size)
          | (go_at_call 32; refine (rf_High _ _ _ _ _).mono ?_; rintro e w1 ⟨rfl, hb1⟩; have hown2 := hown2.grow hb1; have hbw2 := hbw2.trans (hb1.mono hsz); have hsz := Nat.le_trans hsz hb1.size)
          | (go_at_call 14; refine (wd_At _ _ _ _ _ (h.grow (below_box hbw2))).mono ?_; rintro e w1 ⟨rfl, rfl⟩)
          | (go_at_call 13; refine (wd_Within _ _ _ hm).mono ?_; rintro e w1 ⟨rfl, rfl⟩)
          | ((with_reducible refine step_app_int _ rfl (.tmp 14) (.tmp 31) rfl (w.heap.size + 1) hown2 ?_ ?_ ?_ hlen' hsz hI ?_); (exact rfl); (exact rfl); (exact rfl); intro v1 w1 hown3 hbel1; have hbw2 := hbw2.trans hbel1))
      clear e1 e2 e3 hX hy2
      go_wp2
      go_roundw
      case rel => exact ⟨k + 1, by omega, by go_num, by rw [HS.out, HY.out]; exact hown3, hbw2⟩
      case measure => simp [intOf]; omega
    · go_wp2
      go_ret
      obtain rfl : k = n := by omega
      exact ⟨_, rfl, hown.base (by omega), below_box hbw⟩
end Go.Proofs.YtpmbgcfnehplaaaDoor
end
