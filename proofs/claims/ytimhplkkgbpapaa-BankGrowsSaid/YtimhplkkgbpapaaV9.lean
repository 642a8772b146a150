/- Rows of lifting steps of the call's own; the plain form of Steps.Lifts. -/
import Derived.Test.YtimhplkkgbpapaaV8
import Derived.Maps.AppendAt
namespace Go.Proofs.Ytimhplkkgbpapaa
open Go.RowKit

def elB (l : List Bool) (i : Nat) : Bool := (l[i]?).getD false
def mkL (os : List Bool) (st cf sh : List Int) (i : Nat) : Lft :=
  (elB os i, withinF (atF st i) 17 - 8, belowF 4096 [atF cf (3 * i), atF cf (3 * i + 1), atF cf (3 * i + 2)] (withinF (atF cf i) 4).toNat, withinF (atF sh i) 8)
def lftsF (os : List Bool) (st cf sh : List Int) (k : Nat) : List Lft := (List.range k).map (mkL os st cf sh)
theorem lftsF_length (os : List Bool) (st cf sh : List Int) (k : Nat) : (lftsF os st cf sh k).length = k := by simp [lftsF]
theorem lftsF_succ (os : List Bool) (st cf sh : List Int) (k : Nat) : lftsF os st cf sh (k + 1) = lftsF os st cf sh k ++ [mkL os st cf sh k] := by simp [lftsF, List.range_succ]
theorem mkL_ok (os : List Bool) (st cf sh : List Int) (i : Nat) : lftB (mkL os st cf sh i) = true ∧ (mkL os st cf sh i).2.2.1.length ≤ 3 := by
  have a := within_in (m := 17) (by omega) (atF st i)
  have b := within_in (m := 8) (by omega) (atF sh i)
  have c := within_in (m := 4) (by omega) (atF cf i)
  have hl : (mkL os st cf sh i).2.2.1.length ≤ 3 := by unfold mkL; simp only [belowF_length]; omega
  refine ⟨?_, hl⟩
  unfold lftB headB
  simp only [Bool.and_eq_true, decide_eq_true_eq, inB_iff]
  refine ⟨⟨by omega, ⟨?_, ?_⟩, ?_, ?_⟩, ?_⟩
  · exact b.1
  · show withinF (atF sh i) 8 ≤ 20; omega
  · show -8 ≤ withinF (atF st i) 17 - 8; omega
  · show withinF (atF st i) 17 - 8 ≤ 8; omega
  · refine List.all_eq_true.2 fun x hx => ?_
    unfold mkL at hx
    simp only [belowF] at hx
    obtain ⟨j, _, rfl⟩ := List.mem_map.1 hx
    have := within_in (m := 2 * 4096 + 1) (by omega) (wrap64 (atF [atF cf (3 * i), atF cf (3 * i + 1), atF cf (3 * i + 2)] (j : Int) + 4096))
    unfold cfB
    rw [inB_iff]
    omega
theorem lftsF_ok (os : List Bool) (st cf sh : List Int) (k : Nat) (hk : k ≤ 5) : lftsB (lftsF os st cf sh k) = true := by
  unfold lftsB
  rw [Bool.and_eq_true, decide_eq_true_eq, lftsF_length]
  refine ⟨by omega, List.all_eq_true.2 fun s hs => ?_⟩
  obtain ⟨i, _, rfl⟩ := List.mem_map.1 hs
  exact (mkL_ok _ _ _ _ i).1
/-- v is a slice of steps of the call's own that reads as ls; the coefficients lie in other blocks. -/
def OwnLf (base : Nat) (w : World) (v : Value) (ls : List Lft) : Prop :=
  ∃ cs : List Value, w.ownsRow base 48 4 v ls.length cs ∧ ∀ (k : Nat) s, ls[k]? = some s → ∃ C c, cs[k * 4]? = some (.bool s.1) ∧ cs[k * 4 + 1]? = some (.int .i64 s.2.1) ∧ cs[k * 4 + 2]? = some (.slice C s.2.2.1.length c) ∧ cs[k * 4 + 3]? = some (.int .i64 s.2.2.2) ∧
    Ints w C s.2.2.1 ∧ (s.2.2.1 ≠ [] → ∀ a, C = some a → some a.block ≠ v.ownBlock) ∧ I64 s.2.1 ∧ I64 s.2.2.2
theorem OwnLf.nil {base : Nat} {w : World} : OwnLf base w (.slice none 0 0) [] := ⟨[], World.ownsRow_nil _ _ _ _, fun k s h => by simp at h⟩
theorem OwnLf.grow {base : Nat} {w w' : World} {v : Value} {ls : List Lft} (h : OwnLf base w v ls) (hb : Below w.heap.size w w') : OwnLf base w' v ls := by
  obtain ⟨cs, h1, h2⟩ := h
  refine ⟨cs, own_grow h1 hb, fun k s hk => ?_⟩
  obtain ⟨C, c, c0, c1, c2, c3, hi, hn, i1, i2⟩ := h2 k s hk
  exact ⟨C, c, c0, c1, c2, c3, hi.grow hb, hn, i1, i2⟩
theorem OwnLf.base {base base' : Nat} {w : World} {v : Value} {ls : List Lft} (h : OwnLf base w v ls) (hb : base' ≤ base) : OwnLf base' w v ls := by
  obtain ⟨cs, h1, h2⟩ := h
  exact ⟨cs, own_base h1 hb, h2⟩
theorem own_cells {base n c size : Nat} {e : TypeId} {A : Option Addr} {w : World} {xs : List Value} (h : w.ownsRow base e size (.slice A n c) n xs) {k : Nat} {v : Value} (hk : xs[k]? = some v) :
    ∃ g, A = some ⟨g, 0, none⟩ ∧ g < w.heap.size ∧ w.cell? ⟨g, k, none⟩ = some v := by
  obtain ⟨h1, h2 | ⟨g, cap, cur, hv, hg, hh, _, _, hs, ht⟩⟩ := h
  · obtain ⟨_, rfl⟩ := h2
    have : xs = [] := List.length_eq_zero_iff.1 (by omega)
    subst this; simp at hk
  · injection hv with hA _ _
    have hlt : g < w.heap.size := by
      rcases Nat.lt_or_ge g w.heap.size with h | h
      · exact h
      · rw [Array.getElem?_eq_none h] at hh; cases hh
    refine ⟨g, hA, hlt, ?_⟩
    rw [← ht, List.getElem?_take] at hk
    split at hk
    · simp [World.cell?, hh] 
      simpa using hk
    · cases hk
theorem OwnLf.form {base : Nat} {w : World} {v : Value} {ls : List Lft} (h : OwnLf base w v ls) : ∃ A c, v = .slice A ls.length c ∧ Lifts w A ls := by
  obtain ⟨cs, h1, h2⟩ := h
  obtain ⟨A, c, rfl, _⟩ := own_form h1
  refine ⟨A, c, rfl, fun k s hk => ?_⟩
  obtain ⟨C, d, c0, c1, c2, c3, hi, _, i1, i2⟩ := h2 k s hk
  obtain ⟨g, e0, hg, d0⟩ := own_cells h1 c0
  obtain ⟨g1, e1, _, d1⟩ := own_cells h1 c1
  obtain ⟨g2, e2, _, d2⟩ := own_cells h1 c2
  obtain ⟨g3, e3, _, d3⟩ := own_cells h1 c3
  rw [e0] at e1 e2 e3
  injection e1 with e1; injection e1 with e1
  injection e2 with e2; injection e2 with e2
  injection e3 with e3; injection e3 with e3
  subst e1 e2 e3
  exact ⟨_, C, d, e0, hg, by rw [add_cellsB]; exact d0, by rw [add_cellsB]; exact d1, by rw [add_cellsB]; exact d2, by rw [add_cellsB]; exact d3, hi, i1, i2⟩
theorem info_lift : (Try.prog.info? 48).map (fun i => (i.zero, i.size, i.bytes)) = some (some (.agg #[.bool false, .int .i64 0, .slice none 0 0, .int .i64 0]), 4, 48) := by kernel_rfl
theorem app_lift {ops : Array Oper} {rest : List Oper} {o : Oper} {a : Act} {Q : Exit → Act → World → Prop} (W : World) (hgd : o.guard = none) (s x : Operand) (ho : o.op = .call { callee := .builtin .append, args := #[s, x], argTypes := #[26, 26] })
    (base : Nat) {v : Value} {ls : List Lft} {p : Lft} {C : Option Addr} {c : Nat} (hown : OwnLf base W v ls) (hs : a.eval s = v) (hx : a.eval x = .slice (some ⟨W.heap.size, 0, none⟩) 1 1) (hC : Ints W C p.2.2.1) (hne : p.2.2.1 ≠ [] → ∀ a, C = some a → some a.block ≠ v.ownBlock)
    (i1 : I64 p.2.1) (i2 : I64 p.2.2.2) (hn : ls.length ≤ 1000) (hbase : base ≤ W.heap.size)
    (h : ∀ v' w', OwnLf base w' v' (ls ++ [p]) → Below base W w' → wpList Try.prog ops Q rest (a.put o.dst v') w') :
    wpList Try.prog ops Q (o :: rest) a (W.alloc (.cells #[.bool p.1, .int .i64 p.2.1, .slice C p.2.2.1.length c, .int .i64 p.2.2.2] 48)) := by
  obtain ⟨i0, hi, hz0, hz1, hz2⟩ := info_parts info_lift
  obtain ⟨cs, hr, hcs⟩ := hown
  have hba := (Below.refl W.heap.size W).alloc (Nat.le_refl _) (.cells #[.bool p.1, .int .i64 p.2.1, .slice C p.2.2.1.length c, .int .i64 p.2.2.2] 48)
  have hb0 := (Below.refl base W).alloc hbase (.cells #[.bool p.1, .int .i64 p.2.1, .slice C p.2.2.1.length c, .int .i64 p.2.2.2] 48)
  obtain ⟨v', w', hrun, hr', hg, _, hob⟩ := run_append_own_at (P := Try.prog) (W.alloc (.cells #[.bool p.1, .int .i64 p.2.1, .slice C p.2.2.1.length c, .int .i64 p.2.2.2] 48)) base 26 o.type 48 i0 _ 4 48 Try.underlying26 hi hz0 hz1 hz2 rfl (by decide) v ls.length cs (hr.alloc _) ⟨W.heap.size, 0, none⟩ 1 1 [.bool p.1, .int .i64 p.2.1, .slice C p.2.2.1.length c, .int .i64 p.2.2.2] rfl
    (fun j u hu => by
      rw [add_cellsB]
      match j, hu with
      | 0, hu => simp at hu; subst hu; simp [go_sem]
      | 1, hu => simp at hu; subst hu; simp [go_sem]
      | 2, hu => simp at hu; subst hu; simp [go_sem]
      | 3, hu => simp at hu; subst hu; simp [go_sem])
    (fun u hu => by simp at hu; rcases hu with rfl | rfl | rfl | rfl <;> rfl) (by unfold maxLen; omega) (by omega) (by simp; omega)
  refine wpList_plain hgd fun K hK => ?_
  unfold Oper.wp execOp
  simp only [ho, resolve, invoke, builtin, Sem.run_bind, Sem.run_pure, Result.andThen_ok, List.map_toArray, List.map_cons, List.map_nil, hs, hx, hrun]
  refine hK _ _ (h v' w' ?_ ?_)
  · have keep : ∀ (C : Option Addr) (l : List Int), Ints W C l → (l ≠ [] → ∀ a, C = some a → some a.block ≠ v.ownBlock) → Ints w' C l ∧ (l ≠ [] → ∀ a, C = some a → some a.block ≠ v'.ownBlock) := fun C l hI hn => by
      refine ⟨(hI.grow hba).kept hg hn, fun hl a ha e => ?_⟩
      rcases hob with h1 | h1
      · exact hn hl a ha (e.trans h1)
      · rw [h1] at e
        injection e with e
        have := hI.block hl ha
        simp at e
        omega
    refine ⟨cs ++ [.bool p.1, .int .i64 p.2.1, .slice C p.2.2.1.length c, .int .i64 p.2.2.2], by rw [List.length_append]; exact hr', fun k s hk => ?_⟩
    have hlen := hr.1
    rw [List.getElem?_append] at hk
    split at hk
    · rename_i hlt
      obtain ⟨C', c', c0, c1, c2, c3, hI, hn', j1, j2⟩ := hcs k s hk
      obtain ⟨k1, k2⟩ := keep C' _ hI hn'
      refine ⟨C', c', ?_, ?_, ?_, ?_, k1, k2, j1, j2⟩
      all_goals (rw [List.getElem?_append_left (by omega)]; assumption)
    · rename_i hlt
      have hk0 : k = ls.length := by
        rcases Nat.lt_or_ge (k - ls.length) 1 with h | h
        · omega
        · rw [List.getElem?_eq_none (by simpa using h)] at hk; cases hk
      subst hk0
      simp at hk
      subst hk
      obtain ⟨k1, k2⟩ := keep C _ hC hne
      refine ⟨C, c, ?_, ?_, ?_, ?_, k1, k2, i1, i2⟩
      · rw [List.getElem?_append_right (by omega), show ls.length * 4 - cs.length = 0 by omega]; rfl
      · rw [List.getElem?_append_right (by omega), show ls.length * 4 + 1 - cs.length = 1 by omega]; rfl
      · rw [List.getElem?_append_right (by omega), show ls.length * 4 + 2 - cs.length = 2 by omega]; rfl
      · rw [List.getElem?_append_right (by omega), show ls.length * 4 + 3 - cs.length = 3 by omega]; rfl
  · exact hb0.grown hg (by simp; omega) (fun k hk => (hr.lt k hk).1)
end Go.Proofs.Ytimhplkkgbpapaa
