/- Rows of instructions of the call's own. -/
import Derived.Test.YtpmbgcfnehplaaaDoorE15
import Derived.Test.YtpmbgcfnehplaaaDoorPv
set_option linter.unusedVariables false
set_option linter.unusedSimpArgs false
namespace Go.Proofs.YtpmbgcfnehplaaaDoor
open Go.RowKit

def encI (i : Ins) : List Int := [i.op, i.a, i.b, i.imm]
theorem flatI_get {l : List Ins} {k j : Nat} {i : Ins} (h : l[k]? = some i) (hj : j < 4) : ((l.flatMap encI).map (Value.int .i64))[k * 4 + j]? = i.cells[j]? := by
  rw [List.getElem?_map, flat_get (enc := encI) (sz := 4) (fun _ => rfl) l k j i h hj, ← List.getElem?_map]; rfl
theorem InsAt.row {w : World} {A : Option Addr} {l : List Ins} (h : InsAt w A l) : ∀ j u, ((l.flatMap encI).map (Value.int .i64))[j]? = some u → ∃ ad, A = some ad ∧ w.cell? (ad.add j) = some u := fun j u hu => by
  have hj : j < l.length * 4 := by
    have := (List.getElem?_eq_some_iff.1 hu).1
    rw [List.length_map, flat_length (enc := encI) (sz := 4) (fun _ => rfl)] at this
    exact this
  have hk : j / 4 < l.length := by omega
  have ht : l[j / 4]? = some l[j / 4] := List.getElem?_eq_getElem hk
  obtain ⟨ad, e, hs, -, hr, -⟩ := h _ _ ht
  refine ⟨ad, e, ?_⟩
  have ej : j = j / 4 * 4 + j % 4 := by omega
  rw [ej, flatI_get ht (by omega)] at hu
  rw [add_noneI hs, show ad.off + j = ad.off + j / 4 * 4 + j % 4 by omega]
  exact hr (j % 4) u hu
theorem InsAt.grown {w w' : World} {A : Option Addr} {l : List Ins} {r : Option Nat} (h : InsAt w A l) (hg : w.grownBy w' r) (hn : ∀ a, A = some a → some a.block ≠ r) : InsAt w' A l := fun k i hk => by
  obtain ⟨ad, e, h1, h2, h3, h4⟩ := h k i hk
  exact ⟨ad, e, h1, Nat.lt_of_lt_of_le h2 hg.size, fun j v hj => hg.cell (h3 j v hj) (hn ad e), h4⟩
theorem nums_one {l : List Int} : ∀ u ∈ l.map (Value.int .i64), u.oneCell' = true := fun u hu => by
  obtain ⟨x, _, rfl⟩ := List.mem_map.1 hu; rfl
theorem info_ins : (Tryd.prog.info? 48).map (fun i => (i.zero, i.size, i.bytes)) = some (some (.agg #[.int .i64 0, .int .i64 0, .int .i64 0, .int .i64 0]), 4, 32) := by kernel_rfl
theorem und_ins : Tryd.prog.underlying 28 = some (.slice 48) := Tryd.underlying28
theorem built_ins1 (i : Ins) : builtS Tryd.prog 48 1 [(0, i.v)] = some (i.cells.toArray) := by kernel_rfl
/-- v is a slice of instructions of the call's own that reads as l. -/
def OwnIR (base : Nat) (w : World) (v : Value) (l : List Ins) : Prop := w.ownsRow base 48 4 v l.length ((l.flatMap encI).map (Value.int .i64)) ∧ ∀ i ∈ l, i.ok
theorem OwnIR.nil {base : Nat} {w : World} : OwnIR base w (.slice none 0 0) [] := ⟨World.ownsRow_nil _ _ _ _, by simp⟩
theorem OwnIR.grow {base : Nat} {w w' : World} {v : Value} {l : List Ins} (h : OwnIR base w v l) (hb : Below w.heap.size w w') : OwnIR base w' v l := ⟨own_grow h.1 hb, h.2⟩
theorem OwnIR.base {base base' : Nat} {w : World} {v : Value} {l : List Ins} (h : OwnIR base w v l) (hb : base' ≤ base) : OwnIR base' w v l := ⟨own_base h.1 hb, h.2⟩
theorem OwnIR.store {base g k : Nat} {w : World} {v u : Value} {l : List Ins} (h : OwnIR base w v l) (hg : g < base) : OwnIR base (w.setCell ⟨g, k, none⟩ u) v l := ⟨own_store h.1 hg, h.2⟩
theorem OwnIR.ge {base : Nat} {w : World} {v : Value} {l : List Ins} (h : OwnIR base w v l) : ∀ k, v.ownBlock = some k → base ≤ k := fun k hk => (h.1.lt k hk).1
theorem OwnIR.form {base : Nat} {w : World} {v : Value} {l : List Ins} (h : OwnIR base w v l) : ∃ A c, v = .slice A l.length c ∧ l.length ≤ c ∧ InsAt w A l := by
  obtain ⟨A, c, rfl, hc⟩ := own_form h.1
  refine ⟨A, c, rfl, hc, fun k i hk => ?_⟩
  have hc4 : ∀ j v, i.cells[j]? = some v → ∃ g, A = some ⟨g, 0, none⟩ ∧ g < w.heap.size ∧ w.cell? ⟨g, k * 4 + j, none⟩ = some v := fun j v hj => by
    have hj4 : j < 4 := (List.getElem?_eq_some_iff.1 hj).1
    obtain ⟨g, e0, hg, d0⟩ := own_cells h.1 (k := k * 4 + j) (v := v) (by rw [flatI_get hk hj4]; exact hj)
    exact ⟨g, e0, hg, d0⟩
  obtain ⟨g, e0, hg, d0⟩ := hc4 0 _ rfl
  refine ⟨⟨g, 0, none⟩, e0, rfl, hg, fun j v hj => ?_, h.2 i (List.mem_of_getElem? hk)⟩
  obtain ⟨g1, e1, hg1, d1⟩ := hc4 j v hj
  rw [e0] at e1
  injection e1 with e1; injection e1 with e1
  subst e1
  rw [show (⟨g, 0, none⟩ : Addr).off + k * 4 + j = k * 4 + j by show 0 + k * 4 + j = _; omega]
  exact d1
theorem OwnIR.single {w : World} {i : Ins} (hi : i.ok) : OwnIR w.heap.size (w.alloc (.cells i.cells.toArray 48)) (.slice (some ⟨w.heap.size, 0, none⟩) 1 1) [i] :=
  ⟨World.ownsRow_lit w i.cells.toArray 1 (Nat.le_refl _) (by unfold maxLen; omega) (by kernel_rfl), fun x hx => by rw [List.mem_singleton.1 hx]; exact hi⟩
/-- append(v, s...) for instructions. -/
theorem app_ins {ops : Array Oper} {rest : List Oper} {o : Oper} {a : Act} {Q : Exit → Act → World → Prop} (w : World) (hg : o.guard = none) (s x : Operand) (ho : o.op = .call { callee := .builtin .append, args := #[s, x], argTypes := #[28, 28] })
    (base : Nat) {v : Value} {l m : List Ins} {A : Option Addr} {n c : Nat} (hs : a.eval s = v) (hx : a.eval x = .slice A n c) (hown : OwnIR base w v l) (hI : InsAt w A m) (hm : m.length = n) (hn : l.length + n ≤ 100000000) (hbase : base ≤ w.heap.size)
    (h : ∀ v' w', OwnIR base w' v' (l ++ m) → Below base w w' → wpList Tryd.prog ops Q rest (a.put o.dst v') w') : wpList Tryd.prog ops Q (o :: rest) a w := by
  subst hm
  refine app_row w hg s x 28 48 (.agg #[.int .i64 0, .int .i64 0, .int .i64 0, .int .i64 0]) 4 32 ho und_ins info_ins rfl (by decide) (by decide) base hs hx hown.1 (ys := (m.flatMap encI).map (Value.int .i64)) ?_ hI.row nums_one hn hbase fun v' w' h1 h2 h3 => h v' w' ⟨?_, ?_⟩ (own_below (Below.refl _ _) hbase hown.ge h2)
  · rw [List.length_map, flat_length (enc := encI) (sz := 4) (fun _ => rfl)]
  · rw [List.flatMap_append, List.map_append, List.length_append]; exact h1
  · intro i hi
    rcases List.mem_append.1 hi with hi | hi
    · exact hown.2 i hi
    · exact hI.ok i hi
/-- make([]Instr, 0, n). -/
theorem mk_ins0 {ops : Array Oper} {rest : List Oper} {o : Oper} {a : Act} {Q : Exit → Act → World → Prop} {w : World} (hg : o.guard = none) (s c : Operand) (hop : o.op = Op.makeSlice 28 s c)
    (base n : Nat) {N : Int} (hs : a.eval s = .int .i64 0) (hc : a.eval c = .int .i64 N) (hN : N = (n : Int)) (hn : n ≤ 100000000) (hb : base ≤ w.heap.size)
    (h : ∀ w', OwnIR base w' (.slice (some ⟨w.heap.size, 0, none⟩) 0 n) [] → Below w.heap.size w w' → wpList Tryd.prog ops Q rest (a.put o.dst (.slice (some ⟨w.heap.size, 0, none⟩) 0 n)) w') :
    wpList Tryd.prog ops Q (o :: rest) a w := by
  subst hN
  obtain ⟨i0, hi, hz0, hz1, hz2⟩ := info_parts info_ins
  refine wpList_make_own w hg s c 28 hop base 48 i0 (.agg #[.int .i64 0, .int .i64 0, .int .i64 0, .int .i64 0]) 4 und_ins hi hz0 hz1 .i64 .i64 n n hs hc rfl (by rw [hz2]; omega) (by unfold maxLen; omega) hb fun w' h1 h2 => h w' ⟨h1, by simp⟩ ((Below.refl _ _).grown h2 (Nat.le_refl _) (by intro k hk; cases hk))
/-- The literal of a slice of one instruction. -/
theorem bld_ins1 {ops : Array Oper} {rest : List Oper} {o : Oper} {a : Act} {Q : Exit → Act → World → Prop} {w : World} {i : Ins} (hgd : o.guard = none) (x : Operand) (ho : o.op = .buildSlice 28 1 #[(0, x)]) (hx : a.eval x = i.v)
    (h : wpList Tryd.prog ops Q rest (a.put o.dst (.slice (some ⟨w.heap.size, 0, none⟩) 1 1)) (w.alloc (.cells i.cells.toArray 48))) : wpList Tryd.prog ops Q (o :: rest) a w :=
  wp_bldS hgd 28 48 1 _ ho und_ins 4 size_ins (by decide) (by decide) _ rfl (by show builtS Tryd.prog 48 1 [(0, a.eval x)] = _; rw [hx]; exact built_ins1 i) h
end Go.Proofs.YtpmbgcfnehplaaaDoor
