/- Several texts in one: V9 Ve G4 Va Vb U. -/
import Derived.Test.YtmdfgidejdiiiaalV5toV8
import Derived.Maps.AppendAt
import Derived.Test.YtmdfgidejdiiiaalJ2toVp
import Derived.Test.YtmdfgidejdiiiaalPltoZa
import Derived.Deep.DeepCutAuto
import Derived.Handy
set_option linter.unusedVariables false
set_option linter.unusedSimpArgs false
section
namespace Go.Proofs.Ytmdfgidejdiiiaa
open Go.RowKit
def elB (l : List Bool) (i : Nat) : Bool := (l[i]?).getD false
def mkL (os : List Bool) (st cf sh : List Int) (i : Nat) : Lft :=
  (elB os i, withinF (atF st i) 17 - 8, belowF 4096 [atF cf (3 * i), atF cf (3 * i + 1), atF cf (3 * i + 2)] (withinF (atF cf i) 4).toNat, withinF (atF sh i) 8)
def lftsF (os : List Bool) (st cf sh : List Int) (k : Nat) : List Lft := (List.range k).map (mkL os st cf sh)
theorem lftsF_length (os : List Bool) (st cf sh : List Int) (k : Nat) : (lftsF os st cf sh k).length = k := by simp [lftsF]
theorem lftsF_succ (os : List Bool) (st cf sh : List Int) (k : Nat) : lftsF os st cf sh (k + 1) = lftsF os st cf sh k ++ [mkL os st cf sh k] := by simp [lftsF, List.range_succ]
theorem mkL_ok (os : List Bool) (st cf sh : List Int) (i : Nat) : lftB (mkL os st cf sh i) = true ∧ (mkL os st cf sh i).2.2.1.length ≤ 3 := by
  have a := within_in (m := 17) (by omega) (atF st i)
  have b := within_in (m := 8) (by omega) (atF sh i)
  have c := within_in (m := 4) (by omega) (atF cf i)
  have hl : (mkL os st cf sh i).2.2.1.length ≤ 3 := by unfold mkL; simp only [belowF_length]; omega
  refine ⟨?_, hl⟩
  unfold lftB headB
  simp only [Bool.and_eq_true, decide_eq_true_eq, inB_iff]
  refine ⟨⟨by omega, ⟨?_, ?_⟩, ?_, ?_⟩, ?_⟩
  · exact b.1
  · show withinF (atF sh i) 8 ≤ 20; omega
  · show -8 ≤ withinF (atF st i) 17 - 8; omega
  · show withinF (atF st i) 17 - 8 ≤ 8; omega
  · refine List.all_eq_true.2 fun x hx => ?_
    unfold mkL at hx
    simp only [belowF] at hx
    obtain ⟨j, _, rfl⟩ := List.mem_map.1 hx
    have := within_in (m := 2 * 4096 + 1) (by omega) (wrap64 (atF [atF cf (3 * i), atF cf (3 * i + 1), atF cf (3 * i + 2)] (j : Int) + 4096))
    unfold cfB
    rw [inB_iff]
    omega
theorem lftsF_ok (os : List Bool) (st cf sh : List Int) (k : Nat) (hk : k ≤ 5) : lftsB (lftsF os st cf sh k) = true := by
  unfold lftsB
  rw [Bool.and_eq_true, decide_eq_true_eq, lftsF_length]
  refine ⟨by omega, List.all_eq_true.2 fun s hs => ?_⟩
  obtain ⟨i, _, rfl⟩ := List.mem_map.1 hs
  exact (mkL_ok _ _ _ _ i).1
theorem own_cells {base n c size : Nat} {e : TypeId} {A : Option Addr} {w : World} {xs : List Value} (h : w.ownsRow base e size (.slice A n c) n xs) {k : Nat} {v : Value} (hk : xs[k]? = some v) :
    ∃ g, A = some ⟨g, 0, none⟩ ∧ g < w.heap.size ∧ w.cell? ⟨g, k, none⟩ = some v := by
  obtain ⟨h1, h2 | ⟨g, cap, cur, hv, hg, hh, _, _, hs, ht⟩⟩ := h
  · obtain ⟨_, rfl⟩ := h2
    have : xs = [] := List.length_eq_zero_iff.1 (by omega)
    subst this; simp at hk
  · injection hv with hA _ _
    have hlt : g < w.heap.size := by
      rcases Nat.lt_or_ge g w.heap.size with h | h
      · exact h
      · rw [Array.getElem?_eq_none h] at hh; cases hh
    refine ⟨g, hA, hlt, ?_⟩
    rw [← ht, List.getElem?_take] at hk
    split at hk
    · simp [World.cell?, hh] 
      simpa using hk
    · cases hk
def OwnLf (base : Nat) (w : World) (v : Value) (ls : List Lft) : Prop :=
  ∃ cs : List Value, w.ownsRow base 64 4 v ls.length cs ∧ ∀ (k : Nat) s, ls[k]? = some s → ∃ C c, cs[k * 4]? = some (.bool s.1) ∧ cs[k * 4 + 1]? = some (.int .i64 s.2.1) ∧ cs[k * 4 + 2]? = some (.slice C s.2.2.1.length c) ∧ cs[k * 4 + 3]? = some (.int .i64 s.2.2.2) ∧
    Ints w C s.2.2.1 ∧ (s.2.2.1 ≠ [] → ∀ a, C = some a → some a.block ≠ v.ownBlock) ∧ I64 s.2.1 ∧ I64 s.2.2.2
theorem OwnLf.nil {base : Nat} {w : World} : OwnLf base w (.slice none 0 0) [] := ⟨[], World.ownsRow_nil _ _ _ _, fun k s h => by simp at h⟩
theorem OwnLf.grow {base : Nat} {w w' : World} {v : Value} {ls : List Lft} (h : OwnLf base w v ls) (hb : Below w.heap.size w w') : OwnLf base w' v ls := by
  obtain ⟨cs, h1, h2⟩ := h
  refine ⟨cs, own_grow h1 hb, fun k s hk => ?_⟩
  obtain ⟨C, c, c0, c1, c2, c3, hi, hn, i1, i2⟩ := h2 k s hk
  exact ⟨C, c, c0, c1, c2, c3, hi.grow hb, hn, i1, i2⟩
theorem OwnLf.base {base base' : Nat} {w : World} {v : Value} {ls : List Lft} (h : OwnLf base w v ls) (hb : base' ≤ base) : OwnLf base' w v ls := by
  obtain ⟨cs, h1, h2⟩ := h
  exact ⟨cs, own_base h1 hb, h2⟩
theorem OwnLf.form {base : Nat} {w : World} {v : Value} {ls : List Lft} (h : OwnLf base w v ls) : ∃ A c, v = .slice A ls.length c ∧ Lifts w A ls := by
  obtain ⟨cs, h1, h2⟩ := h
  obtain ⟨A, c, rfl, _⟩ := own_form h1
  refine ⟨A, c, rfl, fun k s hk => ?_⟩
  obtain ⟨C, d, c0, c1, c2, c3, hi, _, i1, i2⟩ := h2 k s hk
  obtain ⟨g, e0, hg, d0⟩ := own_cells h1 c0
  obtain ⟨g1, e1, _, d1⟩ := own_cells h1 c1
  obtain ⟨g2, e2, _, d2⟩ := own_cells h1 c2
  obtain ⟨g3, e3, _, d3⟩ := own_cells h1 c3
  rw [e0] at e1 e2 e3
  injection e1 with e1; injection e1 with e1
  injection e2 with e2; injection e2 with e2
  injection e3 with e3; injection e3 with e3
  subst e1 e2 e3
  exact ⟨_, C, d, e0, hg, by rw [add_cellsB]; exact d0, by rw [add_cellsB]; exact d1, by rw [add_cellsB]; exact d2, by rw [add_cellsB]; exact d3, hi, i1, i2⟩
theorem info_lift : (Try.prog.info? 64).map (fun i => (i.zero, i.size, i.bytes)) = some (some (.agg #[.bool false, .int .i64 0, .slice none 0 0, .int .i64 0]), 4, 48) := by kernel_rfl
theorem app_lift {ops : Array Oper} {rest : List Oper} {o : Oper} {a : Act} {Q : Exit → Act → World → Prop} (W : World) (hgd : o.guard = none) (s x : Operand) (ho : o.op = .call { callee := .builtin .append, args := #[s, x], argTypes := #[38, 38] })
    (base : Nat) {v : Value} {ls : List Lft} {p : Lft} {C : Option Addr} {c : Nat} (hown : OwnLf base W v ls) (hs : a.eval s = v) (hx : a.eval x = .slice (some ⟨W.heap.size, 0, none⟩) 1 1) (hC : Ints W C p.2.2.1) (hne : p.2.2.1 ≠ [] → ∀ a, C = some a → some a.block ≠ v.ownBlock)
    (i1 : I64 p.2.1) (i2 : I64 p.2.2.2) (hn : ls.length ≤ 1000) (hbase : base ≤ W.heap.size)
    (h : ∀ v' w', OwnLf base w' v' (ls ++ [p]) → Below base W w' → wpList Try.prog ops Q rest (a.put o.dst v') w') :
    wpList Try.prog ops Q (o :: rest) a (W.alloc (.cells #[.bool p.1, .int .i64 p.2.1, .slice C p.2.2.1.length c, .int .i64 p.2.2.2] 64)) := by
  obtain ⟨i0, hi, hz0, hz1, hz2⟩ := info_parts info_lift
  obtain ⟨cs, hr, hcs⟩ := hown
  have hba := (Below.refl W.heap.size W).alloc (Nat.le_refl _) (.cells #[.bool p.1, .int .i64 p.2.1, .slice C p.2.2.1.length c, .int .i64 p.2.2.2] 64)
  have hb0 := (Below.refl base W).alloc hbase (.cells #[.bool p.1, .int .i64 p.2.1, .slice C p.2.2.1.length c, .int .i64 p.2.2.2] 64)
  obtain ⟨v', w', hrun, hr', hg, _, hob⟩ := run_append_own_at (P := Try.prog) (W.alloc (.cells #[.bool p.1, .int .i64 p.2.1, .slice C p.2.2.1.length c, .int .i64 p.2.2.2] 64)) base 38 o.type 64 i0 _ 4 48 Try.underlying38 hi hz0 hz1 hz2 rfl (by decide) v ls.length cs (hr.alloc _) ⟨W.heap.size, 0, none⟩ 1 1 [.bool p.1, .int .i64 p.2.1, .slice C p.2.2.1.length c, .int .i64 p.2.2.2] rfl
    (fun j u hu => by
      rw [add_cellsB]
      match j, hu with
      | 0, hu => simp at hu; subst hu; simp [go_sem]
      | 1, hu => simp at hu; subst hu; simp [go_sem]
      | 2, hu => simp at hu; subst hu; simp [go_sem]
      | 3, hu => simp at hu; subst hu; simp [go_sem])
    (fun u hu => by simp at hu; rcases hu with rfl | rfl | rfl | rfl <;> rfl) (by unfold maxLen; omega) (by omega) (by simp; omega)
  refine wpList_plain hgd fun K hK => ?_
  unfold Oper.wp execOp
  simp only [ho, resolve, invoke, builtin, Sem.run_bind, Sem.run_pure, Result.andThen_ok, List.map_toArray, List.map_cons, List.map_nil, hs, hx, hrun]
  refine hK _ _ (h v' w' ?_ ?_)
  · have keep : ∀ (C : Option Addr) (l : List Int), Ints W C l → (l ≠ [] → ∀ a, C = some a → some a.block ≠ v.ownBlock) → Ints w' C l ∧ (l ≠ [] → ∀ a, C = some a → some a.block ≠ v'.ownBlock) := fun C l hI hn => by
      refine ⟨(hI.grow hba).kept hg hn, fun hl a ha e => ?_⟩
      rcases hob with h1 | h1
      · exact hn hl a ha (e.trans h1)
      · rw [h1] at e
        injection e with e
        have := hI.block hl ha
        simp at e
        omega
    refine ⟨cs ++ [.bool p.1, .int .i64 p.2.1, .slice C p.2.2.1.length c, .int .i64 p.2.2.2], by rw [List.length_append]; exact hr', fun k s hk => ?_⟩
    have hlen := hr.1
    rw [List.getElem?_append] at hk
    split at hk
    · rename_i hlt
      obtain ⟨C', c', c0, c1, c2, c3, hI, hn', j1, j2⟩ := hcs k s hk
      obtain ⟨k1, k2⟩ := keep C' _ hI hn'
      refine ⟨C', c', ?_, ?_, ?_, ?_, k1, k2, j1, j2⟩
      all_goals (rw [List.getElem?_append_left (by omega)]; assumption)
    · rename_i hlt
      have hk0 : k = ls.length := by
        rcases Nat.lt_or_ge (k - ls.length) 1 with h | h
        · omega
        · rw [List.getElem?_eq_none (by simpa using h)] at hk; cases hk
      subst hk0
      simp at hk
      subst hk
      obtain ⟨k1, k2⟩ := keep C _ hC hne
      refine ⟨C, c, ?_, ?_, ?_, ?_, k1, k2, i1, i2⟩
      · rw [List.getElem?_append_right (by omega), show ls.length * 4 - cs.length = 0 by omega]; rfl
      · rw [List.getElem?_append_right (by omega), show ls.length * 4 + 1 - cs.length = 1 by omega]; rfl
      · rw [List.getElem?_append_right (by omega), show ls.length * 4 + 2 - cs.length = 2 by omega]; rfl
      · rw [List.getElem?_append_right (by omega), show ls.length * 4 + 3 - cs.length = 3 by omega]; rfl
  · exact hb0.grown hg (by simp; omega) (fun k hk => (hr.lt k hk).1)
end Go.Proofs.Ytmdfgidejdiiiaa
end
section
namespace Go.Proofs.Ytmdfgidejdiiiaa
open Go.RowKit
theorem Ints.other {w : World} {g k : Nat} {C : Option Addr} {l : List Int} {u : Value} (h : Ints w C l) (hn : l ≠ [] → ∀ a, C = some a → a.block ≠ g) : Ints (w.setCell ⟨g, k, none⟩ u) C l :=
  h.kept (grown_set (grown_refl w (some g))) (fun hl a ha e => by injection e with e; exact hn hl a ha e)
end Go.Proofs.Ytmdfgidejdiiiaa
end
section
namespace Go.Proofs.Ytmdfgidejdiiiaa
open Go.RowKit
end Go.Proofs.Ytmdfgidejdiiiaa
end
section
namespace Go.Proofs.Ytmdfgidejdiiiaa
open Go.RowKit
def Bools (w : World) (A : Option Addr) (l : List Bool) : Prop := Row w w.heap.size A (l.map Value.bool)
theorem Bools.grow {w w' : World} {A : Option Addr} {l : List Bool} (h : Bools w A l) (hb : Below w.heap.size w w') : Bools w' A l := fun k v hk => by
  obtain ⟨ad, e, h1, h2⟩ := h k v hk
  exact ⟨ad, e, Nat.lt_of_lt_of_le h1 hb.size, (hb.cell (by rw [block_add]; exact h1)).trans h2⟩
def StepAt (w : World) (g : Nat) (b : Bool) (st sh : Int) (C : Option Addr) (n c : Nat) : Prop :=
  g < w.heap.size ∧ w.cell? ⟨g, 0, none⟩ = some (.bool b) ∧ w.cell? ⟨g, 1, none⟩ = some (.int .i64 st) ∧ w.cell? ⟨g, 2, none⟩ = some (.slice C n c) ∧ w.cell? ⟨g, 3, none⟩ = some (.int .i64 sh) ∧ w.frozen? ⟨g, 2, none⟩ = false
theorem StepAt.keep {w w' : World} {g : Nat} {b : Bool} {st sh : Int} {C : Option Addr} {n c : Nat} (h : StepAt w g b st sh C n c) (hb : Below w.heap.size w w') : StepAt w' g b st sh C n c := by
  obtain ⟨h0, h1, h2, h3, h4, h5⟩ := h
  exact ⟨Nat.lt_of_lt_of_le h0 hb.size, (hb.cell h0).trans h1, (hb.cell h0).trans h2, (hb.cell h0).trans h3, (hb.cell h0).trans h4, (hb.frozen (p := ⟨g, 2, none⟩) h0).trans h5⟩
theorem StepAt.set {w : World} {g : Nat} {b : Bool} {st sh : Int} {C D : Option Addr} {n c m d : Nat} (h : StepAt w g b st sh C n c) : StepAt (w.setCell ⟨g, 2, none⟩ (.slice D m d)) g b st sh D m d := by
  obtain ⟨h0, h1, h2, h3, h4, h5⟩ := h
  exact ⟨by simpa using h0, by simp [go_sem, h1], by simp [go_sem, h2], by simp [go_sem, h3], by simp [go_sem, h4], by simpa using h5⟩
theorem StepAt.new {a : World} {b : Bool} {st sh : Int} {C : Option Addr} {n c : Nat} {t : TypeId} : StepAt (a.alloc (.cells #[.bool b, .int .i64 st, .slice C n c, .int .i64 sh] t)).drew a.heap.size b st sh C n c :=
  ⟨by simp, by simp [go_sem], by simp [go_sem], by simp [go_sem], by simp [go_sem], by simp [go_sem]⟩
theorem StepAt.cell2 {w w' : World} {g : Nat} {b : Bool} {st sh : Int} {C : Option Addr} {n c : Nat} (h : Hid (StepAt w g b st sh C n c)) (hb : Below w.heap.size w w') : w'.cell? ⟨g, 2, none⟩ = some (.slice C n c) := (h.out.keep hb).2.2.2.1
theorem StepAt.free {w w' : World} {g : Nat} {b : Bool} {st sh : Int} {C : Option Addr} {n c : Nat} (h : Hid (StepAt w g b st sh C n c)) (hb : Below w.heap.size w w') : w'.frozen? ⟨g, 2, none⟩ = false := (h.out.keep hb).2.2.2.2.2
theorem cellS {a w' : World} {H B k : Nat} {v : Value} (hH : H < B) (hB : B ≤ a.heap.size) (S : Hid (a.cell? ⟨H, k, none⟩ = some v)) (b : Below a.heap.size a w') : w'.cell? ⟨H, k, none⟩ = some v := (b.cell (Nat.lt_of_lt_of_le hH hB)).trans S.out
theorem cellS2 {a w' : World} {H B k g : Nat} {v x : Value} (hH : H < B) (hB : B ≤ a.heap.size) (hg : B ≤ g) (S : Hid (a.cell? ⟨H, k, none⟩ = some v)) (b : Below a.heap.size a w') : (w'.setCell ⟨g, 2, none⟩ x).cell? ⟨H, k, none⟩ = some v := by
  rw [World.cell?_setCell_other _ _ _ _ (by intro hc; injection hc with hc; omega)]
  exact cellS hH hB S b
theorem ints3 {a : World} {x y z : Int} {t : TypeId} (h : I64 x ∧ I64 y ∧ I64 z) : Ints (a.alloc (.cells #[.int .i64 x, .int .i64 y, .int .i64 z] t)) (some ⟨a.heap.size, 0, none⟩) [x, y, z] := by
  refine litB rfl (List.all_eq_true.2 fun u hu => ?_)
  have hu2 : I64 u := by
    simp at hu
    rcases hu with rfl | rfl | rfl
    · exact h.1
    · exact h.2.1
    · exact h.2.2
  have u1 := hu2.1
  have u2 := hu2.2
  simp; omega
theorem ints3d {a : World} {x y z : Int} {t : TypeId} (h : I64 x ∧ I64 y ∧ I64 z) : Ints (a.alloc (.cells #[.int .i64 x, .int .i64 y, .int .i64 z] t)).drew (some ⟨a.heap.size, 0, none⟩) [x, y, z] := ints3 h
theorem Own.far {base n c : Nat} {w : World} {A : Option Addr} {l : List Int} (h : Own base w (.slice A n c) l) : ∀ a, A = some a → base ≤ a.block := fun a e => by subst e; exact (h.1.lt a.block rfl).1
theorem belowAD {a w' : World} {o : Obj} (h : Below (a.alloc o).drew.heap.size (a.alloc o).drew w') : Below a.heap.size a w' := ((Below.refl _ _).alloc (Nat.le_refl _) _).drew.trans (h.mono (by simp))
theorem sizeAD (a : World) (o : Obj) : a.heap.size ≤ (a.alloc o).drew.heap.size := by simp
theorem boxS {W w' : World} {B H : Nat} {v0 v1 v2 v3 : Value} (hH : H < B) (y : W.cell? ⟨H, 0, none⟩ = some v0 ∧ W.cell? ⟨H, 1, none⟩ = some v1 ∧ W.cell? ⟨H, 2, none⟩ = some v2 ∧ W.cell? ⟨H, 3, none⟩ = some v3) (h : Below B W w') :
    w'.cell? ⟨H, 0, none⟩ = some v0 ∧ w'.cell? ⟨H, 1, none⟩ = some v1 ∧ w'.cell? ⟨H, 2, none⟩ = some v2 ∧ w'.cell? ⟨H, 3, none⟩ = some v3 := by
  obtain ⟨y0, y1, y2, y3⟩ := y
  exact ⟨(h.cell hH).trans y0, (h.cell hH).trans y1, (h.cell hH).trans y2, (h.cell hH).trans y3⟩
theorem stepS {a w' : World} {H : Nat} {p : Addr} {x0 x1 x2 x3 y : Value} (hH : H < a.heap.size) (hp : p.block < a.heap.size) (S : Hid ((a.cell? ⟨H, 0, none⟩ = some x0 ∧ a.cell? ⟨H, 1, none⟩ = some x1 ∧ a.cell? ⟨H, 2, none⟩ = some x2 ∧ a.cell? ⟨H, 3, none⟩ = some x3) ∧ a.cell? p = some y)) (b : Below a.heap.size a w') :
    (w'.cell? ⟨H, 0, none⟩ = some x0 ∧ w'.cell? ⟨H, 1, none⟩ = some x1 ∧ w'.cell? ⟨H, 2, none⟩ = some x2 ∧ w'.cell? ⟨H, 3, none⟩ = some x3) ∧ w'.cell? p = some y := by
  obtain ⟨⟨y0, y1, y2, y3⟩, y4⟩ := S.out
  exact ⟨⟨(b.cell hH).trans y0, (b.cell hH).trans y1, (b.cell hH).trans y2, (b.cell hH).trans y3⟩, (b.cell hp).trans y4⟩
def LfPost (w : World) (ls : List Lft) (e : Ending) (w' : World) : Prop := ∃ v, e = .returned v ∧ OwnLf w.heap.size w' v ls ∧ Below w.heap.size w w'
set_option maxRecDepth 100000 in
set_option maxHeartbeats 2000000 in
theorem st_Lifts (O S C H : Option Addr) (os : List Bool) (st cf sh : List Int) (c1 c2 c3 c4 : Nat) (w : World) (hO : Bools w O os) (hS : Ints w S st) (hC : Ints w C cf) (hH : Ints w H sh) :
    Calls Try.prog 26 #[.agg #[.slice O os.length c1, .slice S st.length c2, .slice C cf.length c3, .slice H sh.length c4]] w (LfPost w (lftsF os st cf sh (min os.length 5))) := by
  go_enter Try.func26, Try.ntmps26
  go_wp2
  generalize hW : w.alloc (.cells #[.slice O os.length c1, .slice S st.length c2, .slice C cf.length c3, .slice H sh.length c4] 51) = W0
  have hWB : Below w.heap.size w W0 := by rw [← hW]; exact (Below.refl _ _).alloc (Nat.le_refl _) _
  have HW0 : Hid (W0.heap.size = w.heap.size + 1) := by show _ = _; rw [← hW]; simp
  have HL : Hid (W0.cell? ⟨w.heap.size, 0, none⟩ = some (.slice O os.length c1) ∧ W0.cell? ⟨w.heap.size, 1, none⟩ = some (.slice S st.length c2) ∧ W0.cell? ⟨w.heap.size, 2, none⟩ = some (.slice C cf.length c3) ∧ W0.cell? ⟨w.heap.size, 3, none⟩ = some (.slice H sh.length c4)) := by
    rw [← hW]; exact ⟨by simp [go_sem], by simp [go_sem], by simp [go_sem], by simp [go_sem]⟩
  have HO := Lib.hid (hO.grow hWB)
  have HS := Lib.hid (hS.grow hWB)
  have HC := Lib.hid (hC.grow hWB)
  have HH := Lib.hid (hH.grow hWB)
  have HB := Lib.hid hWB
  clear hW hWB hO hS hC hH
  go_loopw [3, 4] (fun v i wr => ∃ k : Nat, k ≤ min os.length 5 ∧ i = .int .i64 k ∧ OwnLf (w.heap.size + 1) wr v (lftsF os st cf sh k) ∧ Below (w.heap.size + 1) W0 wr) (fun _ i _ => 5 - (intOf i).toNat)
  case atStart => exact ⟨0, Nat.zero_le _, rfl, OwnLf.nil, Below.refl _ _⟩
  case round =>
    obtain ⟨k, hk, rfl, hown, hbw⟩ := hrel
    have hlt0 : w.heap.size < W0.heap.size := by have := HW0.out; omega
    have hle0 : W0.heap.size ≤ w.heap.size + 1 := by have := HW0.out; omega
    have hsz := hbw.size
    obtain ⟨y0, y1, y2, y3⟩ := boxS (Nat.lt_succ_self _) HL.out hbw
    have k1 : k ≤ 5 := by omega
    have k2 : k ≤ os.length := by omega
    by_cases h1 : k < os.length
    · by_cases h2 : k < 5
      · have HBW := Lib.hid hbw
        have HOWN := Lib.hid hown
        have HVB : Hid (∀ b, u3.ownBlock = some b → b < wr.heap.size) := fun b hb => by
          obtain ⟨xs, hr, _⟩ := HOWN.out
          exact (hr.lt b hb).2
        clear hbw hown hk
        have d1 : decide ((k : Int) < (os.length : Int)) = true := by simp; omega
        have d2 : decide ((k : Int) < 5) = true := by simp; omega
        go_upto_region 5 with fail
        have hbwr : Below w.heap.size w wr := HB.out.trans (HBW.out.mono (by omega))
        obtain ⟨b, hb⟩ : ∃ b, os[k]? = some b := ⟨_, List.getElem?_eq_getElem h1⟩
        obtain ⟨ad, rfl, had, hadc⟩ := (HO.out.grow (HBW.out.mono hle0)) k (.bool b) (by rw [List.getElem?_map, hb]; rfl)
        have hSr := HS.out.grow (HBW.out.mono hle0)
        have hHr := HH.out.grow (HBW.out.mono hle0)
        have hCr := HC.out.grow (HBW.out.mono hle0)
        have HEB : Hid (elB os k = b) := by show _ = _; unfold elB; rw [hb]; rfl
        obtain ⟨p, hp⟩ : ∃ p, withinF (atF st k) 17 = p := ⟨_, rfl⟩
        obtain ⟨q, hq⟩ : ∃ q, withinF (atF sh k) 8 = q := ⟨_, rfl⟩
        have hp1 := within_in (m := 17) (by omega) (atF st k)
        rw [hp] at hp1
        obtain ⟨hp1, hp2⟩ := hp1
        have hwp : ∀ w, Calls Try.prog 56 #[.int .i64 (atF st k), .int .i64 17] w fun e w' => e = .returned (.int .i64 p) ∧ w = w' := fun w => by rw [← hp]; exact wd_Within _ _ w (by omega)
        have hwq : ∀ w, Calls Try.prog 56 #[.int .i64 (atF sh k), .int .i64 8] w fun e w' => e = .returned (.int .i64 q) ∧ w = w' := fun w => by rw [← hq]; exact wd_Within _ _ w (by omega)
        have HWP := Lib.hid hwp
        have HWQ := Lib.hid hwq
        have HP := Lib.hid hp
        have HQ := Lib.hid hq
        have e1 : IntKind.i64.wrap (p - 8) = p - 8 := IntWalk.i64_in _ (by omega)
        have S0 : Hid ((wr.cell? ⟨w.heap.size, 0, none⟩ = some (.slice (some ad) os.length c1) ∧ wr.cell? ⟨w.heap.size, 1, none⟩ = some (.slice S st.length c2) ∧ wr.cell? ⟨w.heap.size, 2, none⟩ = some (.slice C cf.length c3) ∧ wr.cell? ⟨w.heap.size, 3, none⟩ = some (.slice H sh.length c4)) ∧ wr.cell? (ad.add k) = some (.bool b)) := ⟨⟨y0, y1, y2, y3⟩, hadc⟩
        have had2 : (ad.add k).block < wr.heap.size := by rw [block_add]; exact had
        have hlt1 : w.heap.size < wr.heap.size := by omega
        clear hwp hwq hp hq hb hadc y0 y1 y2 y3
        go_cut [5] (fun s5 wx => ∃ g : Nat, s5 = .pointer (some ⟨g, 0, none⟩) ∧ StepAt wx g b (p - 8) q none 0 0 ∧ wr.heap.size ≤ g ∧ Below wr.heap.size wr wx)
        case first =>
          go_region_held3 (fun w' => ((w'.cell? ⟨w.heap.size, 0, none⟩ = some (.slice (some ad) os.length c1) ∧ w'.cell? ⟨w.heap.size, 1, none⟩ = some (.slice S st.length c2) ∧ w'.cell? ⟨w.heap.size, 2, none⟩ = some (.slice C cf.length c3) ∧ w'.cell? ⟨w.heap.size, 3, none⟩ = some (.slice H sh.length c4)) ∧ w'.cell? (ad.add k) = some (.bool b)))
            (exact stepS hlt1 had2 S0 (by go_grown))
            (first
              | (go_at_call 58; with_reducible refine (wd_At S st c2 k _ (hSr.grow (by go_grown))).mono ?_; rintro e w1 ⟨rfl, rfl⟩)
              | (go_at_call 58; with_reducible refine (wd_At H sh c4 k _ (hHr.grow (by go_grown))).mono ?_; rintro e w1 ⟨rfl, rfl⟩)
              | (go_at_call 56; with_reducible refine (HWP.out _).mono ?_; rintro e w1 ⟨rfl, rfl⟩)
              | (go_at_call 56; with_reducible refine (HWQ.out _).mono ?_; rintro e w1 ⟨rfl, rfl⟩))
          all_goals
            go_wp2_with fail
            go_meet
            exact ⟨_, rfl, StepAt.new, Nat.le_refl _, ((Below.refl _ _).alloc (Nat.le_refl _) _).drew⟩
        case rest =>
          obtain ⟨g, rfl, hst, hg, hbx⟩ := hcut
          have hCc := hCr.grow hbx
          have S1 : Hid (wc.cell? ⟨w.heap.size, 2, none⟩ = some (.slice C cf.length c3)) := (hbx.cell hlt1).trans S0.out.1.2.2.1
          have hgl := hst.1
          have hs1 := hbx.size
          have HST := Lib.hid hst
          obtain ⟨a0, ha0⟩ : ∃ a0, atF cf (3 * (k : Int)) = a0 := ⟨_, rfl⟩
          obtain ⟨a1, ha1⟩ : ∃ a1, atF cf (3 * (k : Int) + 1) = a1 := ⟨_, rfl⟩
          obtain ⟨a2, ha2⟩ : ∃ a2, atF cf (3 * (k : Int) + 2) = a2 := ⟨_, rfl⟩
          obtain ⟨m, hm⟩ : ∃ m : Nat, withinF (atF cf k) 4 = m := Int.eq_ofNat_of_zero_le (within_in (by omega) _).1
          have hm4 : m ≤ 4 := by have := (within_in (m := 4) (by omega) (atF cf k)).2; omega
          have hI3 : I64 a0 ∧ I64 a1 ∧ I64 a2 := ⟨by rw [← ha0]; exact atF_i64 hCc.2 _, by rw [← ha1]; exact atF_i64 hCc.2 _, by rw [← ha2]; exact atF_i64 hCc.2 _⟩
          have HI3 := Lib.hid hI3
          have hat0 : ∀ w, Ints w C cf → Calls Try.prog 58 #[.slice C cf.length c3, .int .i64 (3 * (k : Int))] w fun e w' => e = .returned (.int .i64 a0) ∧ w = w' := fun w h => by rw [← ha0]; exact wd_At C cf c3 _ w h
          have hat1 : ∀ w, Ints w C cf → Calls Try.prog 58 #[.slice C cf.length c3, .int .i64 (3 * (k : Int) + 1)] w fun e w' => e = .returned (.int .i64 a1) ∧ w = w' := fun w h => by rw [← ha1]; exact wd_At C cf c3 _ w h
          have hat2 : ∀ w, Ints w C cf → Calls Try.prog 58 #[.slice C cf.length c3, .int .i64 (3 * (k : Int) + 2)] w fun e w' => e = .returned (.int .i64 a2) ∧ w = w' := fun w h => by rw [← ha2]; exact wd_At C cf c3 _ w h
          have hwm : ∀ w, Calls Try.prog 56 #[.int .i64 (atF cf k), .int .i64 4] w fun e w' => e = .returned (.int .i64 m) ∧ w = w' := fun w => by rw [← hm]; exact wd_Within _ _ w (by omega)
          obtain ⟨cs, hcs⟩ : ∃ cs, belowF 4096 [a0, a1, a2] m = cs := ⟨_, rfl⟩
          have hbel : ∀ (w0 : World) x, Ints w0 (some ⟨x, 0, none⟩) [a0, a1, a2] → Calls Try.prog 32 #[.int .i64 4096, .slice (some ⟨x, 0, none⟩) 3 3, .int .i64 m] w0 fun e w' => ∃ v, e = .returned v ∧ Own w0.heap.size w' v cs ∧ Below w0.heap.size w0 w' := fun w0 x h => by
            rw [← hcs]; exact wd_Below 4096 _ [a0, a1, a2] 3 m w0 (by omega) (by omega) (by omega) h
          have HAT0 := Lib.hid hat0
          have HAT1 := Lib.hid hat1
          have HAT2 := Lib.hid hat2
          have HWM := Lib.hid hwm
          have HBEL := Lib.hid hbel
          have MK : Hid (mkL os st cf sh k = (b, p - 8, cs, q)) := by
            show _ = _
            unfold mkL
            rw [ha0, ha1, ha2, hm, HP.out, HQ.out, HEB.out, ← hcs]
            rfl
          have f1 : IntKind.i64.wrap (3 * (k : Int)) = 3 * (k : Int) := IntWalk.i64_in _ (by omega)
          have f2 : IntKind.i64.wrap (3 * (k : Int) + 1) = 3 * (k : Int) + 1 := IntWalk.i64_in _ (by omega)
          have f3 : IntKind.i64.wrap (3 * (k : Int) + 2) = 3 * (k : Int) + 2 := IntWalk.i64_in _ (by omega)
          clear hat0 hat1 hat2 hwm hbel ha0 ha1 ha2 hm hcs hI3 hst
          have hbc := Below.refl wc.heap.size wc
          go_upto_region 6 with fail
          go_cut [5] (fun s5 wx => ∃ C' d', s5 = .pointer (some ⟨g, 0, none⟩) ∧ StepAt wx g b (p - 8) q C' cs.length d' ∧ Own wr.heap.size wx (.slice C' cs.length d') cs ∧ Below wr.heap.size wr wx)
          case first =>
            go_region_held3 (fun w' => w'.cell? ⟨w.heap.size, 2, none⟩ = some (.slice C cf.length c3))
              (first | ((with_reducible refine cellS2 hlt1 hs1 hg S1 ?_); go_grown) | (exact cellS hlt1 hs1 S1 (by go_grown)))
              (first
                | (go_at_call 58; with_reducible refine (HAT0.out _ (hCc.grow (by go_grown))).mono ?_; rintro e w1 ⟨rfl, rfl⟩)
                | (go_at_call 58; with_reducible refine (HAT1.out _ (hCc.grow (by go_grown))).mono ?_; rintro e w1 ⟨rfl, rfl⟩)
                | (go_at_call 58; with_reducible refine (HAT2.out _ (hCc.grow (by go_grown))).mono ?_; rintro e w1 ⟨rfl, rfl⟩)
                | (go_at_call 58; with_reducible refine (wd_At C cf c3 k _ (hCc.grow (by go_grown))).mono ?_; rintro e w1 ⟨rfl, rfl⟩)
                | (go_at_call 56; with_reducible refine (HWM.out _).mono ?_; rintro e w1 ⟨rfl, rfl⟩)
                | (go_at_call 32; with_reducible refine (HBEL.out _ _ ?_).mono ?_; (first | exact ints3d HI3.out | exact ints3 HI3.out); rintro e w1 ⟨v1, rfl, ho1, hb1⟩; have hbc := belowAD hb1; obtain ⟨C1, d1, rfl, _, _⟩ := ho1.form; have t2 := StepAt.cell2 HST hbc; have tf := StepAt.free HST hbc; have ho1 := Own.base ho1 (sizeAD _ _)))
            all_goals
              go_wp2_with fail
              go_meet
              exact ⟨_, _, rfl, (HST.out.keep hbc).set, (Own.store ho1 hgl).base hs1, (hbx.trans (hbc.mono hs1)).setCell (p := ⟨g, 2, none⟩) hg _⟩
          case rest =>
            obtain ⟨C', d', rfl, hst2, hoc, hbx2⟩ := hcut
            have hlen := lftsF_length os st cf sh k
            have hown2 := HOWN.out.grow hbx2
            have hq2 := (within_in (m := 8) (by omega) (atF sh k))
            rw [HQ.out] at hq2
            have hi1 : I64 (p - 8) := ⟨by omega, by omega⟩
            have hi2 : I64 q := ⟨by omega, by omega⟩
            have x1 := hst2.2.1
            have x2 := hst2.2.2.1
            have x3 := hst2.2.2.2.1
            have x4 := hst2.2.2.2.2.1
            have hs2 := hbx2.size
            have HX := Lib.hid hbx2
            have HOC := Lib.hid hoc
            clear hst2 hq2 hoc hbx2
            go_wp2_with (at_builtin; refine app_lift wc rfl _ _ rfl (w.heap.size + 1) (p := (b, p - 8, cs, q)) (C := C') (c := d') hown2 rfl rfl HOC.out.ints (fun _ a ha e => absurd (HVB.out a.block e.symm) (Nat.not_lt.2 (HOC.out.far a ha))) hi1 hi2 (by omega) (by omega) ?_; intro v1 w1 hown1 hbel1)
            go_roundw
            case rel => exact ⟨k + 1, by omega, by go_num, by rw [lftsF_succ, MK.out]; exact hown1, (HBW.out.trans (HX.out.mono (by omega))).trans hbel1⟩
            case measure => simp [intOf]; omega
      · have hN : min os.length 5 = k := by omega
        have HN := Lib.hid hN
        clear hN hk
        have d1 : decide ((k : Int) < (os.length : Int)) = true := by simp; omega
        have d2 : decide ((k : Int) < 5) = false := by simp; omega
        go_wp2
        go_ret
        rw [HN.out]
        exact ⟨_, rfl, hown.base (by omega), HB.out.trans (hbw.mono (by omega))⟩
    · have hN : min os.length 5 = k := by omega
      have HN := Lib.hid hN
      clear hN hk
      have d1 : decide ((k : Int) < (os.length : Int)) = false := by simp; omega
      go_wp2
      go_ret
      rw [HN.out]
      exact ⟨_, rfl, hown.base (by omega), HB.out.trans (hbw.mono (by omega))⟩
end Go.Proofs.Ytmdfgidejdiiiaa
end
section
namespace Go.Proofs.Ytmdfgidejdiiiaa
open Go.RowKit
theorem evenB_two (h : Nat) : evenB (2 * h) = true := by unfold evenB; simp
theorem anE_ok {ls : List Lft} {x : List Int} {h : Nat} (h1 : lftsB ls = true) (h2 : x.length = 2 * h) (h3 : h ≤ 2048) (h4 : W32 x) : anE ls x = 0 := by
  unfold anE
  rw [h1, h2, evenB_two, wB_iff.2 h4, show decide (2 * h ≤ 4096) = true by simp; omega]
  rfl
theorem lftsB_coefs {ls : List Lft} (h : lftsB ls = true) : ls.length ≤ 1000000 ∧ ∀ s ∈ ls, s.2.2.1.length ≤ 9223372036854775807 := by
  obtain ⟨h1, h2⟩ := Bool.and_eq_true _ _ ▸ h
  have h1 := of_decide_eq_true h1
  refine ⟨by omega, fun s hs => ?_⟩
  have := List.all_eq_true.1 h2 s hs
  obtain ⟨h3, _⟩ := Bool.and_eq_true _ _ ▸ this
  have := (head_iff.1 h3).1
  omega
def Got2 (w : World) (a b : List Int) (e : Ending) (w' : World) : Prop := ∃ A c B d, e = .returned (.tuple #[.slice A a.length c, .slice B b.length d, .int .i64 0]) ∧ Ints w' A a ∧ Ints w' B b ∧ Below w.heap.size w w'
theorem got_Analyse (A B : Option Addr) (ls : List Lft) (x : List Int) (c d h : Nat) (w : World) (hok : lftsB ls = true) (hx : x.length = 2 * h) (hh : h ≤ 2048) (hw : W32 x) (hL : Lifts w A ls) (hI : Ints w B x) :
    Calls Try.prog 17 #[.slice A ls.length c, .slice B x.length d] w (Got2 w (analyseF ls x).1 (analyseF ls x).2) := by
  obtain ⟨k1, k2⟩ := lftsB_coefs hok
  refine (bk_Analyse A B ls x c d w hL hI k1 k2 (by omega)).mono ?_
  rintro e w' ⟨v1, v2, rfl, o1, o2, hb⟩
  have h0 := anE_ok hok hx hh hw
  rw [show anLo ls x = (analyseF ls x).1 by unfold anLo; rw [if_pos h0]] at o1
  rw [show anHi ls x = (analyseF ls x).2 by unfold anHi; rw [if_pos h0]] at o2
  obtain ⟨A1, c1, rfl, _, i1⟩ := o1.form
  obtain ⟨A2, c2, rfl, _, i2⟩ := o2.form
  rw [h0]
  exact ⟨A1, c1, A2, c2, rfl, i1, i2, hb⟩
theorem Ints.takeL {w : World} {B : Option Addr} {l : List Int} (h : Ints w B l) (k : Nat) : Ints w B (l.take k) := by
  refine ⟨fun j v hj => h.1 j v ?_, fun x hx => h.2 x (List.mem_of_mem_take hx)⟩
  rw [List.map_take, List.getElem?_take] at hj
  split at hj
  · exact hj
  · cases hj
theorem Ints.dropL {w : World} {B : Option Addr} {l : List Int} {c k : Nat} (h : Ints w B l) (hc : l.length ≤ c) : Ints w (if c = k then B else B.map (fun x => x.add k)) (l.drop k) := by
  refine ⟨fun j v hj => ?_, fun x hx => h.2 x (List.mem_of_mem_drop hx)⟩
  rw [List.map_drop, List.getElem?_drop] at hj
  obtain ⟨ad, e, h1, h2⟩ := h.1 (k + j) v hj
  have hlt : k + j < l.length := by have := (List.getElem?_eq_some_iff.1 hj).1; simpa using this
  rw [if_neg (by omega), e]
  exact ⟨ad.add k, rfl, by rw [block_add]; exact h1, by rw [add_add]; exact h2⟩
def StepsAt (w : World) (u : (Option Addr × Nat × List Bool) × (Option Addr × Nat × List Int) × (Option Addr × Nat × List Int) × (Option Addr × Nat × List Int)) : Prop :=
  (Bools w u.1.1 u.1.2.2 ∧ u.1.2.2.length ≤ 9223372036854775807) ∧ (Ints w u.2.1.1 u.2.1.2.2 ∧ u.2.1.2.2.length ≤ 9223372036854775807) ∧ (Ints w u.2.2.1.1 u.2.2.1.2.2 ∧ u.2.2.1.2.2.length ≤ 9223372036854775807) ∧ (Ints w u.2.2.2.1 u.2.2.2.2.2 ∧ u.2.2.2.2.2.length ≤ 9223372036854775807)
def stepsV (u : (Option Addr × Nat × List Bool) × (Option Addr × Nat × List Int) × (Option Addr × Nat × List Int) × (Option Addr × Nat × List Int)) : Value :=
  .agg #[.slice u.1.1 u.1.2.2.length u.1.2.1, .slice u.2.1.1 u.2.1.2.2.length u.2.1.2.1, .slice u.2.2.1.1 u.2.2.1.2.2.length u.2.2.1.2.1, .slice u.2.2.2.1 u.2.2.2.2.2.length u.2.2.2.2.1]
def GotL (w : World) (ls : List Lft) (e : Ending) (w' : World) : Prop := ∃ A c, e = .returned (.slice A ls.length c) ∧ Lifts w' A ls ∧ Below w.heap.size w w'
def GotI (w : World) (l : List Int) (e : Ending) (w' : World) : Prop := ∃ A c, e = .returned (.slice A l.length c) ∧ l.length ≤ c ∧ Ints w' A l ∧ Below w.heap.size w w'
theorem got_wide (x : List Int) : ∃ (y : List Int) (h : Nat), y.length = 2 * h ∧ h ≤ 20 ∧ W32 y ∧ ∀ w A c, x.length ≤ 9223372036854775807 → Ints w A x → Calls Try.prog 30 #[.slice A x.length c] w (GotI w y) := by
  obtain ⟨h, e1, e2⟩ := wdN_even x
  refine ⟨wdF x (wdN x), h, by rw [wdF_length, e1], e2, wdF_w32 _ _, fun w A c hl hI => ?_⟩
  refine (l33_wide A x c w hl hI).mono ?_
  rintro e w' ⟨v, rfl, ho, hb⟩
  obtain ⟨A, c, rfl, hc, hL⟩ := ho.form
  exact ⟨A, c, rfl, hc, hL, hb⟩
end Go.Proofs.Ytmdfgidejdiiiaa
end
section
namespace Go.Proofs.Ytmdfgidejdiiiaa
open Go.RowKit
def Box (w : World) (g : Nat) (vs : List Value) : Prop := g < w.heap.size ∧ (∀ k, w.cell? ⟨g, k, none⟩ = vs[k]?) ∧ ∀ k, w.frozen? ⟨g, k, none⟩ = false
theorem Box.new {w : World} {vs : Array Value} {t : TypeId} {g : Nat} (h : g = w.heap.size) : Box (w.alloc (.cells vs t)) g vs.toList := by
  subst h
  refine ⟨by simp, fun k => ?_, fun k => ?_⟩
  · rw [cell_of_row _ w.heap.size k vs t (0, 0) (heap_alloc_new w _)]
    simp
  · exact frozen_of_row _ w.heap.size k vs t (heap_alloc_new w _)
theorem Box.block {w w' : World} {g : Nat} {vs : List Value} (h : Box w g vs) (hb : w'.heap[g]? = w.heap[g]?) (hs : w.heap.size ≤ w'.heap.size) : Box w' g vs :=
  ⟨Nat.lt_of_lt_of_le h.1 hs, fun k => (World.cell?_of_block (a := ⟨g, k, none⟩) hb).trans (h.2.1 k), fun k => (World.frozen?_of_block (a := ⟨g, k, none⟩) hb).trans (h.2.2 k)⟩
theorem Box.keep {w w' : World} {g : Nat} {vs : List Value} (h : Box w g vs) (hb : Below w.heap.size w w') : Box w' g vs := h.block (hb.block g h.1) hb.size
theorem Box.grown {w w' : World} {g : Nat} {vs : List Value} {r : Option Nat} (h : Box w g vs) (hb : w.grownBy w' r) (hn : some g ≠ r) : Box w' g vs := h.block (hb.block g h.1 hn) hb.size
theorem Box.alloc {w : World} {g : Nat} {vs : List Value} (h : Box w g vs) (o : Obj) : Box (w.alloc o) g vs := h.keep ((Below.refl _ _).alloc (Nat.le_refl _) o)
theorem Box.drew {w : World} {g : Nat} {vs : List Value} (h : Box w g vs) : Box w.drew g vs := h.keep ((Below.refl _ _).drew)
theorem Box.set {w : World} {g k : Nat} {vs : List Value} {u : Value} (h : Box w g vs) (hk : k < vs.length := by simp) : Box (w.setCell ⟨g, k, none⟩ u) g (vs.set k u) := by
  obtain ⟨h1, h2, h3⟩ := h
  refine ⟨by simpa [World.setCell] using h1, fun j => ?_, fun j => by rw [World.frozen?_setCell]; exact h3 j⟩
  rw [List.getElem?_set]
  by_cases e : k = j
  · subst e
    rw [if_pos rfl, if_pos hk]
    exact World.cell?_setCell_same _ _ _ ((h2 k).trans (List.getElem?_eq_getElem hk))
  · rw [if_neg e, World.cell?_setCell_other _ _ _ _ (by intro hc; injection hc with _ hc; exact e hc)]
    exact h2 j
theorem Box.c2 {w : World} {g : Nat} {a b : Value} (h : Box w g [a, b]) : w.cell? ⟨g, 0, none⟩ = some a ∧ w.cell? ⟨g, 1, none⟩ = some b := ⟨h.2.1 0, h.2.1 1⟩
theorem Box.c4 {w : World} {g : Nat} {a b c d : Value} (h : Box w g [a, b, c, d]) : w.cell? ⟨g, 0, none⟩ = some a ∧ w.cell? ⟨g, 1, none⟩ = some b ∧ w.cell? ⟨g, 2, none⟩ = some c ∧ w.cell? ⟨g, 3, none⟩ = some d := ⟨h.2.1 0, h.2.1 1, h.2.1 2, h.2.1 3⟩
theorem Box.c12 {w : World} {g : Nat} {a b c d a' b' c' d' i j k l : Value} (h : Box w g [a, b, c, d, a', b', c', d', i, j, k, l]) :
    (w.cell? ⟨g, 0, none⟩ = some a ∧ w.cell? ⟨g, 1, none⟩ = some b ∧ w.cell? ⟨g, 2, none⟩ = some c ∧ w.cell? ⟨g, 3, none⟩ = some d) ∧ (w.cell? ⟨g, 4, none⟩ = some a' ∧ w.cell? ⟨g, 5, none⟩ = some b' ∧ w.cell? ⟨g, 6, none⟩ = some c' ∧ w.cell? ⟨g, 7, none⟩ = some d') ∧
    w.cell? ⟨g, 8, none⟩ = some i ∧ w.cell? ⟨g, 9, none⟩ = some j ∧ w.cell? ⟨g, 10, none⟩ = some k ∧ w.cell? ⟨g, 11, none⟩ = some l :=
  ⟨⟨h.2.1 0, h.2.1 1, h.2.1 2, h.2.1 3⟩, ⟨h.2.1 4, h.2.1 5, h.2.1 6, h.2.1 7⟩, h.2.1 8, h.2.1 9, h.2.1 10, h.2.1 11⟩
end Go.Proofs.Ytmdfgidejdiiiaa
end
