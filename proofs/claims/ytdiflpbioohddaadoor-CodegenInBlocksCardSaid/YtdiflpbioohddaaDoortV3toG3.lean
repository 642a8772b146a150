/- Several texts in one: V3 As V4 V8 V9 Ve G2 G3. -/
import Derived.Test.YtdiflpbioohddaaDoortAtoV1
import Derived.Maps.AppendAt
import Derived.Defers
import Derived.Handy
set_option linter.unusedVariables false
set_option linter.unusedSimpArgs false
section
namespace Go.Proofs.YtdiflpbioohddaaDoor
open Go.RowKit
theorem Own.kept {base : Nat} {w w' : World} {v : Value} {l : List Int} {r : Option Nat} (h : Own base w v l) (hg : w.grownBy w' r) (hne : v.ownBlock = none ∨ v.ownBlock ≠ r) : Own base w' v l := ⟨h.1.kept hg hne, h.2⟩
theorem Own.ints {base : Nat} {w : World} {A : Option Addr} {n c : Nat} {l : List Int} (h : Own base w (.slice A n c) l) : Ints w A l := by
 obtain ⟨A', c', e, _, hi⟩ := h.form
 injection e with e
 rw [e]; exact hi
theorem Own.len {base : Nat} {w : World} {A : Option Addr} {n c : Nat} {l : List Int} (h : Own base w (.slice A n c) l) : n = l.length := by
 obtain ⟨A', c', e, _, _⟩ := h.form
 injection e
theorem Own.other {base : Nat} {w : World} {g g' k n c : Nat} {l : List Int} {u : Value} (h : Own base w (.slice (some ⟨g, 0, none⟩) n c) l) (hne : g ≠ g') : Own base (w.setCell ⟨g', k, none⟩ u) (.slice (some ⟨g, 0, none⟩) n c) l :=
 h.kept (grown_set (grown_refl w (some g'))) (.inr (by show some g ≠ some g'; intro e; injection e with e; exact hne e))
theorem Own.kept_at {base : Nat} {w w' : World} {g g' n c : Nat} {l : List Int} (h : Own base w (.slice (some ⟨g, 0, none⟩) n c) l) (hg : w.grownBy w' (some g')) (hne : g ≠ g') : Own base w' (.slice (some ⟨g, 0, none⟩) n c) l :=
 h.kept hg (.inr (by show some g ≠ some g'; intro e; injection e with e; exact hne e))
end Go.Proofs.YtdiflpbioohddaaDoor
end
section
namespace Go.Proofs.YtdiflpbioohddaaDoor
open Go.RowKit
set_option maxRecDepth 100000 in
theorem run_app_ints (w : World) (base : Nat) (ty : TypeId) (v : Value) (l m : List Int) (A : Option Addr) (c : Nat) (hown : Own base w v l) (hI : Ints w A m) (hn : l.length + m.length ≤ 100000000) (hbase : base ≤ w.heap.size) :
  ∃ v' w', (Builtin.append_ #[25, 25] ty #[v, .slice A m.length c]).run Tryd.prog w = .ok v' w' ∧ Own base w' v' (l ++ m) ∧ w.grownBy w' v.ownBlock ∧ (v'.ownBlock = v.ownBlock ∨ v'.ownBlock = some w.heap.size) := by
 obtain ⟨i0, hi, hz0, hz1, hz2⟩ := info_parts info_int
 have h64 : ∀ x ∈ l ++ m, I64 x := fun x hx => by
  rcases List.mem_append.1 hx with hx | hx
  ·exact hown.2 x hx
  ·exact hI.2 x hx
 cases A with
 | none =>
  have hm : m = [] := by
   cases m with
   | nil => rfl
   | cons y t => obtain ⟨ad, _, e, _⟩ := hI.at_ (k := 0) (by simp); cases e
  subst hm
  refine ⟨v, w, ?_, by simpa using hown, ⟨rfl, rfl, rfl, Nat.le_refl _, fun _ _ _ => rfl⟩, .inl rfl⟩
  rcases hown.1.2 with ⟨rfl, _⟩ | ⟨g, cap, cur, rfl, _, _, hnc, _⟩
  ·simp [Builtin.append_, run_underlying Tryd.underlying25, sizeOf, typeInfo, hi, Builtin.lenOf, Builtin.firstCells]
  ·simp [Builtin.append_, run_underlying Tryd.underlying25, sizeOf, typeInfo, hi, Builtin.lenOf, Builtin.firstCells, hnc, storeCells]
 | some ad =>
  have hnews : ∀ j u, (m.map (Value.int .i64))[j]? = some u → w.cell? (ad.add j) = some u := fun j u hu => by
   obtain ⟨ad', e, _, h⟩ := hI.1 j u hu
   injection e with e
   rw [e]; exact h
  obtain ⟨v', w', h1, h2, h3, _, h5⟩ := run_append_own_at (P := Tryd.prog) w base 25 ty 3 i0 (.int .i64 0) 1 8 Tryd.underlying25 hi hz0 hz1 hz2 rfl (by decide) v l.length _ hown.1 ad m.length c (m.map (Value.int .i64)) (by simp) hnews
   (fun u hu => by obtain ⟨x, _, rfl⟩ := List.mem_map.1 hu; rfl) (by unfold maxLen; omega) (by omega) hbase
  refine ⟨v', w', h1, ⟨?_, h64⟩, h3, h5⟩
  rw [List.map_append, List.length_append]
  exact h2
theorem app_ints {ops : Array Oper} {rest : List Oper} {o : Oper} {a : Act} {Q : Exit → Act → World → Prop} (w : World) (hg : o.guard = none) (s x : Operand) (ho : o.op = .call { callee := .builtin .append, args := #[s, x], argTypes := #[25, 25] })
  (base : Nat) {v : Value} {l m : List Int} {A : Option Addr} {c : Nat} (hs : a.eval s = v) (hx : a.eval x = .slice A m.length c) (hown : Own base w v l) (hI : Ints w A m) (hn : l.length + m.length ≤ 100000000) (hbase : base ≤ w.heap.size)
  (h : ∀ v' w', Own base w' v' (l ++ m) → w.grownBy w' v.ownBlock → (v'.ownBlock = v.ownBlock ∨ v'.ownBlock = some w.heap.size) → wpList Tryd.prog ops Q rest (a.put o.dst v') w') : wpList Tryd.prog ops Q (o :: rest) a w := by
 refine wpList_plain hg fun K hK => ?_
 obtain ⟨v', w', hrun, h1, h2, h3⟩ := run_app_ints w base o.type v l m A c hown hI hn hbase
 unfold Oper.wp execOp
 simp only [ho, resolve, invoke, builtin, Sem.run_bind, Sem.run_pure, Result.andThen_ok, List.map_toArray, List.map_cons, List.map_nil, hs, hx, hrun]
 exact hK _ _ (h v' w' h1 h2 h3)
end Go.Proofs.YtdiflpbioohddaaDoor
end
section
namespace Go.Proofs.YtdiflpbioohddaaDoor
open Go.RowKit
theorem Own.empty {w : World} {g : Nat} (hg : g = w.heap.size) : Own g (w.alloc (.cells #[] 3)) (.slice (some ⟨g, 0, none⟩) 0 0) [] := by
 subst hg
 refine ⟨⟨rfl, .inr ⟨w.heap.size, 0, #[], rfl, Nat.le_refl _, heap_alloc_new w _, Nat.le_refl _, by simp, by simp, by simp⟩⟩, by simp⟩
end Go.Proofs.YtdiflpbioohddaaDoor
end
section
namespace Go.Proofs.YtdiflpbioohddaaDoor
open Go.RowKit
theorem rf_SameB (A B : Option Addr) (l m : List Int) (c d : Nat) (w : World) (hm : m.length ≤ 9223372036854775807) (he : l = m) (h : Ints w A l) (g : Ints w B m) :
  Calls Tryd.prog 26 #[.slice A l.length c, .slice B m.length d] w fun e w' => e = .returned (.bool true) ∧ Below w.heap.size w w' :=
 (rf_SameInts A B l m c d w hm h g).mono fun e w' hh => ⟨by rw [hh.1, he]; simp, hh.2⟩
theorem add_cellsB (g k : Nat) : (⟨g, 0, none⟩ : Addr).add k = ⟨g, k, none⟩ := by
 unfold Addr.add
 by_cases h0 : k = 0 <;> simp [h0]
theorem litB {w : World} {cs : Array Value} {t : TypeId} {l : List Int} (hc : cs.toList = l.map (Value.int .i64)) (hl : l.all (fun x => decide (-9223372036854775808 ≤ x) && decide (x ≤ 9223372036854775807)) = true) : Ints (w.alloc (.cells cs t)) (some ⟨w.heap.size, 0, none⟩) l := by
 refine ⟨?_, fun x hx => by have := List.all_eq_true.1 hl x hx; simp at this; exact this⟩
 rw [← hc]
 intro k v hk
 refine ⟨_, rfl, by simp, ?_⟩
 rw [add_cellsB]
 simpa [go_sem] using hk
end Go.Proofs.YtdiflpbioohddaaDoor
end
section
namespace Go.Proofs.YtdiflpbioohddaaDoor
open Go.RowKit
theorem own_cells {base n c size : Nat} {e : TypeId} {A : Option Addr} {w : World} {xs : List Value} (h : w.ownsRow base e size (.slice A n c) n xs) {k : Nat} {v : Value} (hk : xs[k]? = some v) :
  ∃ g, A = some ⟨g, 0, none⟩ ∧ g < w.heap.size ∧ w.cell? ⟨g, k, none⟩ = some v := by
 obtain ⟨h1, h2 | ⟨g, cap, cur, hv, hg, hh, _, _, hs, ht⟩⟩ := h
 ·obtain ⟨_, rfl⟩ := h2
  have : xs = [] := List.length_eq_zero_iff.1 (by omega)
  subst this; simp at hk
 ·injection hv with hA _ _
  have hlt : g < w.heap.size := by
   rcases Nat.lt_or_ge g w.heap.size with h | h
   ·exact h
   ·rw [Array.getElem?_eq_none h] at hh; cases hh
  refine ⟨g, hA, hlt, ?_⟩
  rw [← ht, List.getElem?_take] at hk
  split at hk
  ·simp [World.cell?, hh] 
   simpa using hk
  ·cases hk
end Go.Proofs.YtdiflpbioohddaaDoor
end
section
namespace Go.Proofs.YtdiflpbioohddaaDoor
open Go.RowKit
def OwnB (base : Nat) (w : World) (v : Value) (ll : List (List Int)) : Prop :=
 ∃ cs : List Value, w.ownsRow base 25 1 v ll.length cs ∧ ∀ (k : Nat) l, ll[k]? = some l → ∃ C c, cs[k]? = some (.slice C l.length c) ∧ Ints w C l ∧ (l ≠ [] → ∀ a, C = some a → base ≤ a.block ∧ some a.block ≠ v.ownBlock)
theorem OwnB.nil {base : Nat} {w : World} : OwnB base w (.slice none 0 0) [] := ⟨[], World.ownsRow_nil _ _ _ _, fun k s h => by simp at h⟩
theorem OwnB.grow {base : Nat} {w w' : World} {v : Value} {ll : List (List Int)} (h : OwnB base w v ll) (hb : Below w.heap.size w w') : OwnB base w' v ll := by
 obtain ⟨cs, h1, h2⟩ := h
 refine ⟨cs, own_grow h1 hb, fun k s hk => ?_⟩
 obtain ⟨C, c, c0, hi, hn⟩ := h2 k s hk
 exact ⟨C, c, c0, hi.grow hb, hn⟩
theorem OwnB.base {base base' : Nat} {w : World} {v : Value} {ll : List (List Int)} (h : OwnB base w v ll) (hb : base' ≤ base) : OwnB base' w v ll := by
 obtain ⟨cs, h1, h2⟩ := h
 refine ⟨cs, own_base h1 hb, fun k s hk => ?_⟩
 obtain ⟨C, c, c0, hi, hn⟩ := h2 k s hk
 exact ⟨C, c, c0, hi, fun hl a ha => ⟨Nat.le_trans hb (hn hl a ha).1, (hn hl a ha).2⟩⟩
theorem Ints.other {w : World} {g k : Nat} {C : Option Addr} {l : List Int} {u : Value} (h : Ints w C l) (hn : l ≠ [] → ∀ a, C = some a → a.block ≠ g) : Ints (w.setCell ⟨g, k, none⟩ u) C l :=
 h.kept (grown_set (grown_refl w (some g))) (fun hl a ha e => by injection e with e; exact hn hl a ha e)
theorem OwnB.store {base g k : Nat} {w : World} {v u : Value} {ll : List (List Int)} (h : OwnB base w v ll) (hg : g < base) : OwnB base (w.setCell ⟨g, k, none⟩ u) v ll := by
 obtain ⟨cs, h1, h2⟩ := h
 refine ⟨cs, own_store h1 hg, fun k s hk => ?_⟩
 obtain ⟨C, c, c0, hi, hn⟩ := h2 k s hk
 exact ⟨C, c, c0, hi.other (fun hl a ha => by have := (hn hl a ha).1; omega), hn⟩
theorem OwnB.lt {base : Nat} {w : World} {v : Value} {ll : List (List Int)} (h : OwnB base w v ll) : ∀ b, v.ownBlock = some b → base ≤ b ∧ b < w.heap.size := fun b hb => by
 obtain ⟨cs, h1, _⟩ := h
 exact h1.lt b hb
theorem OwnB.form {base : Nat} {w : World} {v : Value} {ll : List (List Int)} (h : OwnB base w v ll) : ∃ A c, v = .slice A ll.length c ∧ IntsL w A ll := by
 obtain ⟨cs, h1, h2⟩ := h
 obtain ⟨A, c, rfl, _⟩ := own_form h1
 refine ⟨A, c, rfl, fun k l hk => ?_⟩
 obtain ⟨C, d, c0, hi, _⟩ := h2 k l hk
 obtain ⟨g, e0, hg, d0⟩ := own_cells h1 c0
 exact ⟨_, C, d, e0, hg, by rw [add_cellsB]; exact d0, hi⟩
theorem app_band {ops : Array Oper} {rest : List Oper} {o : Oper} {a : Act} {Q : Exit → Act → World → Prop} (W : World) (hgd : o.guard = none) (s x : Operand) (ho : o.op = .call { callee := .builtin .append, args := #[s, x], argTypes := #[74, 74] })
  (base : Nat) {v : Value} {ll : List (List Int)} {l : List Int} {n : Nat} {C : Option Addr} {c : Nat} (hown : OwnB base W v ll) (hs : a.eval s = v) (hx : a.eval x = .slice (some ⟨W.heap.size, 0, none⟩) 1 1) (hln : l.length = n) (hC : Ints W C l) (hne : l ≠ [] → ∀ a, C = some a → base ≤ a.block ∧ some a.block ≠ v.ownBlock)
  (hn : ll.length ≤ 1000) (hbase : base ≤ W.heap.size)
  (h : ∀ v' w', OwnB base w' v' (ll ++ [l]) → Below base W w' → (W.alloc (.cells #[.slice C n c] 25)).grownBy w' v.ownBlock → (v'.ownBlock = v.ownBlock ∨ v'.ownBlock = some (W.heap.size + 1)) → wpList Tryd.prog ops Q rest (a.put o.dst v') w') :
  wpList Tryd.prog ops Q (o :: rest) a (W.alloc (.cells #[.slice C n c] 25)) := by
 subst hln
 obtain ⟨i0, hi, hz0, hz1, hz2⟩ := info_parts info_ints
 obtain ⟨cs, hr, hcs⟩ := hown
 have hba := (Below.refl W.heap.size W).alloc (Nat.le_refl _) (.cells #[.slice C l.length c] 25)
 have hb0 := (Below.refl base W).alloc hbase (.cells #[.slice C l.length c] 25)
 obtain ⟨v', w', hrun, hr', hg, _, hob⟩ := run_append_own_at (P := Tryd.prog) (W.alloc (.cells #[.slice C l.length c] 25)) base 74 o.type 25 i0 _ 1 24 Tryd.underlying74 hi hz0 hz1 hz2 rfl (by decide) v ll.length cs (hr.alloc _) ⟨W.heap.size, 0, none⟩ 1 1 [.slice C l.length c] rfl
  (fun j u hu => by
   rw [add_cellsB]
   match j, hu with
   | 0, hu => simp at hu; subst hu; simp [go_sem])
  (fun u hu => by simp at hu; subst hu; rfl) (by unfold maxLen; omega) (by omega) (by simp; omega)
 refine wpList_plain hgd fun K hK => ?_
 unfold Oper.wp execOp
 simp only [ho, resolve, invoke, builtin, Sem.run_bind, Sem.run_pure, Result.andThen_ok, List.map_toArray, List.map_cons, List.map_nil, hs, hx, hrun]
 refine hK _ _ (h v' w' ?_ ?_ hg (by rcases hob with h1 | h1; exact .inl h1; exact .inr (by rw [h1]; simp)))
 ·have keep : ∀ (C : Option Addr) (l : List Int), Ints W C l → (l ≠ [] → ∀ a, C = some a → base ≤ a.block ∧ some a.block ≠ v.ownBlock) → Ints w' C l ∧ (l ≠ [] → ∀ a, C = some a → base ≤ a.block ∧ some a.block ≠ v'.ownBlock) := fun C l hI hn => by
   refine ⟨(hI.grow hba).kept hg (fun hl a ha => (hn hl a ha).2), fun hl a ha => ⟨(hn hl a ha).1, fun e => ?_⟩⟩
   rcases hob with h1 | h1
   ·exact (hn hl a ha).2 (e.trans h1)
   ·rw [h1] at e
    injection e with e
    have := hI.block hl ha
    simp at e
    omega
  refine ⟨cs ++ [.slice C l.length c], by rw [List.length_append]; exact hr', fun k s hk => ?_⟩
  have hlen := hr.1
  rw [List.getElem?_append] at hk
  split at hk
  ·rename_i hlt
   obtain ⟨C', c', c0, hI, hn'⟩ := hcs k s hk
   obtain ⟨k1, k2⟩ := keep C' _ hI hn'
   refine ⟨C', c', ?_, k1, k2⟩
   rw [List.getElem?_append_left (by omega)]; assumption
  ·rename_i hlt
   have hk0 : k = ll.length := by
    rcases Nat.lt_or_ge (k - ll.length) 1 with h | h
    ·omega
    ·rw [List.getElem?_eq_none (by simpa using h)] at hk; cases hk
   subst hk0
   simp at hk
   subst hk
   obtain ⟨k1, k2⟩ := keep C _ hC hne
   refine ⟨C, c, ?_, k1, k2⟩
   rw [List.getElem?_append_right (by omega), show ll.length - cs.length = 0 by omega]; rfl
 ·exact hb0.grown hg (by simp; omega) (fun k hk => (hr.lt k hk).1)
end Go.Proofs.YtdiflpbioohddaaDoor
end
section
namespace Go.Proofs.YtdiflpbioohddaaDoor
open Go.RowKit
def idxV (l : List Int) (v : Int) : Int := match l.findIdx? (fun x => x == v) with | some b => (b : Int) | none => -1
theorem idx_found {l : List Int} {v : Int} {k : Nat} (hk : l[k]? = some v) (h : ∀ j, j < k → l[j]? ≠ some v) : idxV l v = (k : Int) := by
 have e : l.findIdx? (fun x => x == v) = some k := by
  obtain ⟨hb, h1⟩ := List.getElem?_eq_some_iff.1 hk
  refine List.findIdx?_eq_some_iff_getElem.2 ⟨hb, by simp [h1], fun j hj => ?_⟩
  have := h j hj
  rw [List.getElem?_eq_getElem (by omega)] at this
  simpa using this
 unfold idxV
 rw [e]
theorem idx_none {l : List Int} {v : Int} (h : ∀ j, j < l.length → l[j]? ≠ some v) : idxV l v = -1 := by
 have e : l.findIdx? (fun x => x == v) = none := by
  refine List.findIdx?_eq_none_iff.2 fun x hx => ?_
  obtain ⟨j, hj, rfl⟩ := List.getElem_of_mem hx
  have := h j hj
  rw [List.getElem?_eq_getElem hj] at this
  simpa using this
 unfold idxV
 rw [e]
set_option maxRecDepth 100000 in
theorem sl_Index (A : Option Addr) (l : List Int) (c n : Nat) (v : Int) (w : World) (hn : l.length = n) (hl : n ≤ 9223372036854775807) (h : Ints w A l) :
  Calls Tryd.prog 66 #[.slice A n c, .int .i64 v] w fun e w' => e = .returned (.int .i64 (idxV l v)) ∧ w = w' := by
 have HN := Lib.hid hn
 clear hn
 go_enter Tryd.func66, Tryd.ntmps66
 go_wp2
 go_loop [5, 8] (fun _ i => ∃ k : Nat, k ≤ n ∧ i = .int .i64 k ∧ Hid (∀ j, j < k → l[j]? ≠ some v)) (fun _ i => n - (intOf i).toNat)
 case atStart => exact ⟨0, Nat.zero_le _, rfl, fun j hj => absurd hj (Nat.not_lt_zero _)⟩
 case round =>
  obtain ⟨k, hk, rfl, HA⟩ := hrel
  by_cases hlt : k < n
  ·obtain ⟨ad, x, rfl, hb, hx, hc, i1, i2⟩ := h.at_ (k := k) (by have := HN.out; omega)
   by_cases he : v = x
   ·subst he
    have HI := Lib.hid (idx_found hx HA.out)
    clear hx
    go_wp2
    go_ret
    exact ⟨ret_int HI.out.symm, rfl⟩
   ·have HX := Lib.hid hx
    clear hx
    go_wp2
    go_round
    case rel => exact ⟨k + 1, by omega, by go_num, fun j hj e => by
     rcases Nat.lt_or_ge j k with h1 | h1
     ·exact HA.out j h1 e
     ·obtain rfl : j = k := by omega
      rw [HX.out] at e
      injection e with e
      exact he e.symm⟩
    case measure => simp [intOf]; omega
  ·have HI := Lib.hid (idx_none (l := l) (v := v) fun j hj => HA.out j (by have := HN.out; omega))
   go_wp2
   go_ret
   exact ⟨ret_int HI.out.symm, rfl⟩
end Go.Proofs.YtdiflpbioohddaaDoor
end
section
namespace Go.Proofs.YtdiflpbioohddaaDoor
open Go.RowKit
def follI (nx : List Int) (a : Nat) : Int := idxV nx ((a : Int) + 1)
theorem follI_eq (nx : List Int) (a : Nat) : follI nx a = match foll nx a with | some b => (b : Int) | none => -1 := rfl
theorem follI_some {nx : List Int} {a b : Nat} (h : foll nx a = some b) : follI nx a = (b : Int) := by rw [follI_eq, h]
theorem follI_none {nx : List Int} {a : Nat} (h : foll nx a = none) : follI nx a = -1 := by rw [follI_eq, h]
def foN (nx : List Int) (S k : Nat) : List Int := (List.range S).map fun a => if a < k then follI nx a else 0
theorem foN_length (nx : List Int) (S k : Nat) : (foN nx S k).length = S := by simp [foN]
theorem foN_get {nx : List Int} {S k i : Nat} (h : i < S) : (foN nx S k)[i]? = some (if i < k then follI nx i else 0) := by
 unfold foN
 rw [List.getElem?_map, List.getElem?_range h]; rfl
theorem foN_zero (nx : List Int) (S : Nat) : foN nx S 0 = List.replicate S 0 := by
 apply List.ext_getElem?
 intro i
 rcases Nat.lt_or_ge i S with h | h
 ·rw [foN_get h, List.getElem?_replicate, if_pos h]; simp
 ·rw [List.getElem?_eq_none (by rw [foN_length]; exact h), List.getElem?_eq_none (by simpa using h)]
theorem foN_succ {nx : List Int} {S k : Nat} (h : k < S) : foN nx S (k + 1) = (foN nx S k).set k (follI nx k) := by
 apply List.ext_getElem?
 intro i
 rw [List.getElem?_set, foN_length]
 rcases Nat.lt_or_ge i S with h1 | h1
 ·rw [foN_get h1]
  by_cases e : k = i
  ·subst e
   rw [if_pos rfl, if_pos h, if_pos (by omega)]
  ·rw [if_neg e, foN_get h1]
   by_cases h2 : i < k
   ·rw [if_pos h2, if_pos (by omega)]
   ·rw [if_neg h2, if_neg (by omega)]
 ·rw [List.getElem?_eq_none (by rw [foN_length]; exact h1), if_neg (by omega), List.getElem?_eq_none (by rw [foN_length]; exact h1)]
def ledB (nx : List Int) (k b : Nat) : Bool := (List.range k).any fun a => foll nx a == some b
theorem ledB_succ (nx : List Int) (k b : Nat) : ledB nx (k + 1) b = (ledB nx k b || foll nx k == some b) := by
 unfold ledB
 rw [List.range_succ, List.any_append]
 simp
def ldN (nx : List Int) (S k : Nat) : List Bool := (List.range S).map (ledB nx k)
theorem ldN_length (nx : List Int) (S k : Nat) : (ldN nx S k).length = S := by simp [ldN]
theorem ldN_get {nx : List Int} {S k i : Nat} (h : i < S) : (ldN nx S k)[i]? = some (ledB nx k i) := by
 unfold ldN
 rw [List.getElem?_map, List.getElem?_range h]; rfl
theorem ldN_zero (nx : List Int) (S : Nat) : ldN nx S 0 = List.replicate S false := by
 apply List.ext_getElem?
 intro i
 rcases Nat.lt_or_ge i S with h | h
 ·rw [ldN_get h, List.getElem?_replicate, if_pos h]; rfl
 ·rw [List.getElem?_eq_none (by rw [ldN_length]; exact h), List.getElem?_eq_none (by simpa using h)]
theorem ldN_some {nx : List Int} {S k b : Nat} (hb : b < S) (h : foll nx k = some b) : ldN nx S (k + 1) = (ldN nx S k).set b true := by
 apply List.ext_getElem?
 intro i
 rw [List.getElem?_set, ldN_length]
 rcases Nat.lt_or_ge i S with h1 | h1
 ·rw [ldN_get h1, ledB_succ, h]
  by_cases e : b = i
  ·subst e
   rw [if_pos rfl, if_pos hb]; simp
  ·rw [if_neg e, ldN_get h1]
   have : (some b == some i) = false := by simpa using e
   rw [this, Bool.or_false]
 ·rw [List.getElem?_eq_none (by rw [ldN_length]; exact h1), if_neg (by omega), List.getElem?_eq_none (by rw [ldN_length]; exact h1)]
theorem ldN_none {nx : List Int} {S k : Nat} (h : foll nx k = none) : ldN nx S (k + 1) = ldN nx S k := by
 unfold ldN
 refine List.map_congr_left fun i _ => ?_
 rw [ledB_succ, h]
 simp
theorem ledB_iff {nx : List Int} {s : Nat} : ledB nx nx.length s = true ↔ ledP nx s := by
 unfold ledB ledP
 rw [List.any_eq_true]
 constructor
 ·rintro ⟨a, ha, h⟩
  exact ⟨a, List.mem_range.1 ha, by simpa using h⟩
 ·rintro ⟨a, ha, h⟩
  exact ⟨a, List.mem_range.2 ha, by simpa using h⟩
def lnF (nx : List Int) : Nat → List (List Int)
 | 0 => []
 | k + 1 => lnF nx k ++ (if ledB nx nx.length k then [] else [lineF nx k])
theorem lnF_led {nx : List Int} {k : Nat} (h : ledB nx nx.length k = true) : lnF nx (k + 1) = lnF nx k := by
 show lnF nx k ++ (if ledB nx nx.length k then [] else [lineF nx k]) = _
 rw [h]; simp
theorem lnF_new {nx : List Int} {k : Nat} (h : ledB nx nx.length k = false) : lnF nx (k + 1) = lnF nx k ++ [lineF nx k] := by
 show lnF nx k ++ (if ledB nx nx.length k then [] else [lineF nx k]) = _
 rw [h]; simp
theorem lnF_length (nx : List Int) : ∀ k, (lnF nx k).length ≤ k
 | 0 => Nat.le_refl _
 | k + 1 => by
  have := lnF_length nx k
  show (lnF nx k ++ (if ledB nx nx.length k then [] else [lineF nx k])).length ≤ k + 1
  rw [List.length_append]
  split <;> simp <;> omega
theorem info_bool : (Tryd.prog.info? 4).map (fun i => (i.zero, i.size, i.bytes)) = some (some (.bool false), 1, 1) := by kernel_rfl
def OwnT (base : Nat) (w : World) (g n : Nat) (l : List Bool) : Prop := w.ownsRow base 4 1 (.slice (some ⟨g, 0, none⟩) n n) n (l.map Value.bool) ∧ l.length = n
theorem OwnT.cell {base : Nat} {w : World} {g n : Nat} {l : List Bool} (h : OwnT base w g n l) {k : Nat} {y : Bool} (hk : l[k]? = some y) : w.cell? ⟨g, k, none⟩ = some (.bool y) := by
 have hkl := (List.getElem?_eq_some_iff.1 hk).1
 rw [h.1.cellAt k (by have := h.2; omega), List.getElem?_map, hk]; rfl
theorem OwnT.free {base : Nat} {w : World} {g n : Nat} {l : List Bool} (h : OwnT base w g n l) (k : Nat) : w.frozen? ⟨g, k, none⟩ = false := h.1.frozenAt k
theorem OwnT.block {base : Nat} {w : World} {g n : Nat} {l : List Bool} (h : OwnT base w g n l) : base ≤ g ∧ g < w.heap.size := h.1.lt g rfl
theorem OwnT.set {base : Nat} {w : World} {g n : Nat} {l : List Bool} (h : OwnT base w g n l) (k : Nat) (y : Bool) : OwnT base (w.setCell ⟨g, k, none⟩ (.bool y)) g n (l.set k y) :=
 ⟨by rw [List.map_set]; exact (h.1.stored k (.bool y)).1, by rw [List.length_set]; exact h.2⟩
theorem OwnT.grow {base : Nat} {w w' : World} {g n : Nat} {l : List Bool} (h : OwnT base w g n l) (hb : Below w.heap.size w w') : OwnT base w' g n l := ⟨own_grow h.1 hb, h.2⟩
theorem OwnT.other {base : Nat} {w : World} {g g' n k : Nat} {l : List Bool} {u : Value} (h : OwnT base w g n l) (hne : g' ≠ g) : OwnT base (w.setCell ⟨g', k, none⟩ u) g n l := by
 obtain ⟨⟨h1, h2 | ⟨q, cap, cur, hv, hq, hh, r⟩⟩, h3⟩ := h
 ·exact ⟨⟨h1, .inl h2⟩, h3⟩
 ·refine ⟨⟨h1, .inr ⟨q, cap, cur, hv, hq, ?_, r⟩⟩, h3⟩
  injection hv with e _ _
  injection e with e
  injection e with e
  exact (Below.heap_setCell w _ u q (by show q ≠ g'; omega)).trans hh
theorem falses_cells (n : Nat) : (madeCells (Value.bool false).cells (n * 1)).toList = (List.replicate n false).map Value.bool := by
 apply List.ext_getElem?
 intro k
 simp only [madeCells, Value.cells, Array.toList_map, Array.toList_range, List.getElem?_map, List.getElem?_replicate, Nat.mul_one]
 rcases Nat.lt_or_ge k n with h | h
 ·rw [List.getElem?_range h]; simp [h, Nat.mod_one]
 ·rw [List.getElem?_eq_none (by simpa using h)]; simp; omega
theorem mk_bool {ops : Array Oper} {rest : List Oper} {o : Oper} {a : Act} {Q : Exit → Act → World → Prop} {w : World} (hg : o.guard = none) (s c : Operand) (hop : o.op = Op.makeSlice 125 s c)
  (base n : Nat) {N : Int} (hs : a.eval s = .int .i64 N) (hc : a.eval c = .int .i64 N) (hN : N = (n : Int)) (hn : n ≤ 100000000) (hb : base ≤ w.heap.size)
  (h : ∀ w', OwnT base w' w.heap.size n (List.replicate n false) → Below w.heap.size w w' → wpList Tryd.prog ops Q rest (a.put o.dst (.slice (some ⟨w.heap.size, 0, none⟩) n n)) w') :
  wpList Tryd.prog ops Q (o :: rest) a w := by
 subst hN
 obtain ⟨i0, hi, hz0, hz1, hz2⟩ := info_parts info_bool
 refine wpList_make_full w hg s c 125 hop base 4 i0 (.bool false) 1 Tryd.underlying125 hi hz0 hz1 .i64 .i64 n n n hs hc rfl rfl (by rw [hz2]; omega) (by unfold maxLen; omega) hb fun w' h1 h2 => h w' ⟨?_, ?_⟩ ?_
 ·rw [← falses_cells]; exact h1
 ·simp
 ·exact (Below.refl _ _).grown h2 (Nat.le_refl _) (by intro k hk; cases hk)
end Go.Proofs.YtdiflpbioohddaaDoor
end
